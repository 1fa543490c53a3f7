/- Part of the proof of Rows.ExerciseMiddleCardSaid: Ev, EvK. -/
import Derived.Calls
set_option linter.all false
namespace Go.Proofs.YtjkdcddpicndgaaGreatDoor
open Go
inductive PV where
  | v (x:Value)
  | nsl
  | sl (rows:List (List PV))
  | h (s:Bool) (n:Nat)
  deriving Inhabited
inductive AV where
  | p (x:PV)
  | lit (rows:List (List PV))
  | ar (l v off len:Nat)
  | ptr (r off:Nat)
  | elp (l v i k:Nat)
  | imm (cells:List PV) (off:Nat)
  | fn (f:Fn) (first captured:List AV)
  | agg (cells:List AV)
  | tup (vs:List AV)
  | map (r:Nat)
  | yld (l:Nat)
  | emp
  | csl (r off n:Nat)
  deriving Inhabited
inductive SA where
  | t (n:Nat)
  | x (n:Nat)
  | c (a:AV)
  | f (g:FuncId)
  deriving Inhabited
inductive LK where
  | int | bool | str
  deriving Inhabited,DecidableEq
inductive SOp where
  | mov (x:SA)
  | pick (c a b:SA)
  | alloc (zero:List AV)
  | box (x:SA)
  | build (zero:List AV) (parts:List (Nat×Nat×SA))
  | slit (zero:List PV) (n:Nat) (parts:List (Nat×SA))
  | load1 (a:SA)
  | loadn (n:Nat) (a:SA)
  | store (n:Nat) (a x:SA)
  | nilck (x:SA)
  | bin (op:BinOp) (x y:SA)
  | binB (op:BinOp) (x y:SA)
  | isnil (neg:Bool) (x:SA)
  | un (op:UnOp) (x:SA)
  | conv (k:IntKind) (x:SA)
  | mkfn (fn:Fn) (first cap:List SA)
  | mkmap
  | mkslice (bytes:Nat) (zero:List PV) (len cap:SA)
  | slice (es:Nat) (x:SA) (lo hi mx:Option SA)
  | sliceS (x:SA) (lo hi:Option SA)
  | fadr (off:Nat) (x:SA)
  | idx (es:Nat) (x i:SA)
  | idxA (len es:Nat) (x i:SA)
  | idxS (x i:SA)
  | idxV (len:Nat) (agg:Bool) (es:Nat) (x i:SA)
  | b2s (x:SA)
  | extract (x:SA) (i:Nat)
  | call (f:SA) (args:List SA)
  | len (x:SA)
  | lenS (x:SA)
  | append (bytes:Nat) (es:Nat) (x y:SA)
  | appendZ (bytes:Nat) (zero:List PV) (x n:SA)
  | copy (es:Nat) (x y:SA)
  | maxmin (mx:Bool) (x y:SA)
  | mapget (x k:SA)
  | mapset (x k v:SA)
  | capN (x:SA)
  | sliceArr (len:Nat) (x:SA) (lo hi:Option SA)
  | eqs (ks:List LK) (neg:Bool) (x y:SA)
  | s2b (x:SA)
  | isnilI (neg:Bool) (x:SA)
  deriving Inhabited
inductive SD where
  | no | t (n:Nat) | x (n:Nat)
  deriving Inhabited
structure SO where
  dst:SD
  op:SOp
  guard:Option (SA×Bool):=none
  deriving Inhabited
inductive DK where
  | free
  | here
  | read
  | write
  | lone
  | fresh
  deriving Inhabited,DecidableEq
def DK.seq:DK→Bool
  | .write=>true
  | .fresh=>true
  | _=>false
structure DO where
  o:SO
  k:DK
  lo:Nat:=0
  hi:Nat:=0
  deriving Inhabited
inductive SCode where
  | skip
  | region (ops:List SO)
  | draw (ops:List DO)
  | seq (a b:SCode)
  | cond (c:SA) (a b:SCode)
  | block (id:Nat) (b:SCode)
  | loop (b:SCode)
  | exit (id:Nat)
  | ret
  | refuse
  | range (f:SA) (ps:List Nat) (a b:SCode)
  | still (ns:List Nat) (c:SCode)
  deriving Inhabited
inductive SExit where
  | normal | exit (id:Nat) | ret
  deriving Inhabited
inductive LS where
  | ready | busy | done (x:SExit) | gone
  deriving Inhabited
inductive Obj where
  | cells (c:List AV)
  | arr (es:Nat) (frz:Option Nat) (ver:Nat) (rows:List (List PV))
  | map (es:List (Value×Value))
  | loop (st:LS) (env:List (Nat×AV)) (ps:List Nat) (a b:SCode)
  deriving Inhabited
abbrev Env:=List (Nat×AV)
structure Fr where
  loc:Env
  env:Env
structure St where
  env:Env
  H:List Obj
def lk:Env→Nat→Option AV
  | [],_=>none
  | (m,v) :: e,n=>if m = n then some v else lk e n
def upd:Env→Nat→AV→Env
  | [],n,v=>[(n,v)]
  | (m,u) :: e,n,v=>if m = n then (n,v) :: e else (m,u) :: upd e n v
def ev (e:Fr):SA→Option AV
  | .t n=>lk e.loc n
  | .x n=>lk e.env n
  | .c a=>some a
  | .f g=>some (.fn (.func g) [] [])
def evs (e:Fr):List SA→Option (List AV)
  | []=>some []
  | x :: xs=>(ev e x).bind fun v=>(evs e xs).bind fun vs=>some (v :: vs)
def seen (fz:Option Nat) (ver v:Nat):Bool :=
  match fz with
  | none=>v == ver
  | some f=>decide (f ≤ v)
def rowsOf (H:List Obj):AV→Option (List (List PV))
  | .p .nsl=>some []
  | .p (.sl rows)=>some rows
  | .lit rows=>some rows
  | .emp=>some []
  | .ar l v off len=>match H[l]? with
    | some (.arr _ fz ver rows)=>if seen fz ver v∧off + len ≤ rows.length then some ((rows.drop off).take len) else none
    | _=>none
  | _=>none
def lenOf:AV→Option Nat
  | .emp=>some 0
  | .csl _ _ n=>some n
  | .p .nsl=>some 0
  | .p (.sl rows)=>some rows.length
  | .lit rows=>some rows.length
  | .ar _ _ _ len=>some len
  | _=>none
def Scalar:Value→Bool
  | .bool _ | .int .. | .float .. | .complex .. | .string _ | .nilFunc | .nilIface=>true
  | .pointer none | .map none | .chan none=>true
  | _=>false
mutual
def canon (H:List Obj):AV→Option AV
  | .lit rows=>some (.p (.sl rows))
  | .ar l v off len=>(rowsOf H (.ar l v off len)).map fun r=>.p (.sl r)
  | .agg cs=>(canons H cs).map .agg
  | .tup cs=>(canons H cs).map .tup
  | a=>some a
def canons (H:List Obj):List AV→Option (List AV)
  | []=>some []
  | a :: as=>(canon H a).bind fun b=>(canons H as).map fun bs=>b :: bs
end
mutual
def arsA:AV→List Nat
  | .ar l _ _ _=>[l]
  | .agg cs=>arsOf cs
  | .tup cs=>arsOf cs
  | _=>[]
def arsOf:List AV→List Nat
  | []=>[]
  | a :: as=>arsA a ++ arsOf as
end
def freeze (H:List Obj):List Nat→List Obj
  | []=>H
  | l :: ls=>freeze (match H[l]? with
    | some (.arr es none ver rows)=>H.set l (.arr es (some ver) ver rows)
    | _=>H) ls
def toPV (H:List Obj) (a:AV):Option PV :=
  match canon H a with
  | some (.p x)=>some x
  | _=>none
def toPVs (H:List Obj):List AV→Option (List PV)
  | []=>some []
  | a :: as=>(toPV H a).bind fun b=>(toPVs H as).map fun bs=>b :: bs
def cellsOf:AV→Option (List AV)
  | .agg cs=>some cs
  | .tup _=>none
  | a=>some [a]
def loadC (H:List Obj) (n:Nat):AV→Option (List AV)
  | .ptr r off=>match H[r]? with
    | some (.cells c)=>if off + n ≤ c.length then some ((c.drop off).take n) else none
    | _=>none
  | .elp l v i k=>match H[l]? with
    | some (.arr _ fz ver rows)=>if seen fz ver v then (rows[i]?).bind fun row=>if k + n ≤ row.length then some (((row.drop k).take n).map .p) else none else none
    | _=>none
  | .imm cs off=>if off + n ≤ cs.length then some (((cs.drop off).take n).map .p) else none
  | _=>none
def splice {α:Type}:List α→Nat→List α→Option (List α)
  | c :: cs,n + 1,xs=>(splice cs n xs).map (c :: ·)
  | cs,0,[]=>some cs
  | _ :: cs,0,x :: xs=>(splice cs 0 xs).map (x :: ·)
  | [],_ + 1,_=>none
  | [],0,_ :: _=>none
def storeC (H:List Obj) (a:AV) (xs:List AV):Option (List Obj) :=
  match a with
  | .ptr r off=>match H[r]? with
    | some (.cells c)=>(splice c off xs).map fun c=>H.set r (.cells c)
    | _=>none
  | .elp l v i k=>if (arsOf xs).contains l then none else match H[l]? with
    | some (.arr es none ver rows)=>if v = ver then (rows[i]?).bind fun row=>(toPVs H xs).bind fun ps=>(splice row k ps).map fun row =>
        (freeze H (arsOf xs)).set l (.arr es none ver (rows.set i row)) else none
    | _=>none
  | _=>none
def fill (e:Fr):List AV→List (Nat×Nat×SA)→Option (List AV)
  | z,[]=>some z
  | z,(off,n,x) :: ps=>(ev e x).bind fun a=>(cellsOf a).bind fun cs=>if cs.length = n then (splice z off cs).bind fun z=>fill e z ps else none
def fillRows (H:List Obj) (e:Fr) (n:Nat):List (List PV)→List (Nat×SA)→Option (List (List PV))
  | z,[]=>some z
  | z,(i,x) :: ps=>(ev e x).bind fun a=>(cellsOf a).bind fun cs=>(toPVs H cs).bind fun r=>if r.length = n then (splice z i [r]).bind fun z=>fillRows H e n z ps else none
def partArs (e:Fr):List (Nat×SA)→List Nat
  | []=>[]
  | (_,x) :: ps=>(match ev e x with | some a=>arsOf [a] | none=>[]) ++ partArs e ps
def bits (op:BinOp) (k:IntKind) (x y:Int):Option Value :=
  let a:=BitVec.ofInt k.bits x
  let b:=BitVec.ofInt k.bits y
  match op with
  | .and=>some (.int k (k.wrap (a &&& b).toNat))
  | .or=>some (.int k (k.wrap (a ||| b).toNat))
  | .xor=>some (.int k (k.wrap (a ^^^ b).toNat))
  | .andNot=>some (.int k (k.wrap (a &&& ~~~b).toNat))
  | _=>none
def binInt (op:BinOp) (k:IntKind) (a b:Int):Option Value :=
  match op with
  | .add=>some (.int k (k.wrap (a + b)))
  | .sub=>some (.int k (k.wrap (a - b)))
  | .mul=>some (.int k (k.wrap (a * b)))
  | .quo=>if b = 0 then none else some (.int k (k.wrap (a.tdiv b)))
  | .rem=>if b = 0 then none else some (.int k (a.tmod b))
  | .eql=>some (.bool (a == b))
  | .neq=>some (.bool (a != b))
  | .lss=>some (.bool (a < b))
  | .leq=>some (.bool (a ≤ b))
  | .gtr=>some (.bool (a > b))
  | .geq=>some (.bool (a ≥ b))
  | op=>bits op k a b
def shift (op:BinOp) (k:IntKind) (a b:Int):Option Value :=
  if b < 0 then none else
  match op with
  | .shl=>some (.int k (k.wrap (a * 2 ^ (min b.toNat k.bits))))
  | .shr=>some (.int k (a.fdiv (2 ^ (min b.toNat k.bits))))
  | _=>none
def isNil:AV→Option Bool
  | .p .nsl=>some true
  | .p (.sl (_ :: _))=>some false
  | .p (.h true _)=>some false
  | .lit (_ :: _)=>some false
  | .ar _ _ _ (_ + 1)=>some false
  | .emp=>some false
  | _=>none
def binV (op:BinOp):Value→Value→Option Value
  | .int k a,.int j b =>
    match op with
    | .shl=>shift .shl k a b
    | .shr=>shift .shr k a b
    | op=>if k = j then binInt op k a b else none
  | .string a,.string b=>match op with
    | .eql=>some (.bool (a.toList == b.toList))
    | .neq=>some (.bool !(a.toList == b.toList))
    | .add=>if a.size + b.size < 9223372036854775808 then some (.string (a ++ b)) else none
    | _=>none
  | _,_=>none
def binB (op:BinOp):Value→Value→Option Value
  | .bool a,.bool b=>match op with
    | .eql=>some (.bool (a == b))
    | .neq=>some (.bool !(a == b))
    | _=>none
  | _,_=>none
def un (op:UnOp):Value→Option Value
  | .int k n=>match op with
    | .neg=>some (.int k (k.wrap (0 - n)))
    | .xor=>bits .xor k (if k.signed then -1 else k.max) n
    | _=>none
  | .bool b=>match op with
    | .not=>some (.bool !b)
    | _=>none
  | _=>none
def asInt:AV→Option Int
  | .p (.v (.int _ n))=>some n
  | _=>none
def evInt (e:Fr) (x:SA):Option Int:=(ev e x).bind asInt
def evIntO (e:Fr) (d:Int):Option SA→Option Int
  | none=>some d
  | some x=>evInt e x
def asVal:AV→Option Value
  | .p (.v x)=>some x
  | _=>none
def evVal (e:Fr) (x:SA):Option Value:=(ev e x).bind asVal
def asMap:AV→Option Nat
  | .map r=>some r
  | _=>none
def evMap (e:Fr) (x:SA):Option Nat:=(ev e x).bind asMap
def mapAt (H:List Obj) (r:Nat):Option (List (Value×Value)) :=
  match H[r]? with
  | some (.map es)=>some es
  | _=>none
def bytesOf:List (List PV)→Option (List UInt8)
  | []=>some []
  | [.v (.int .u8 n)] :: r=>(bytesOf r).map (UInt8.ofNat n.toNat :: ·)
  | _=>none
def maxmin (mx:Bool):Value→Value→Option Value
  | .int k a,.int j b=>if k = j then some (.int k (if mx then (if b > a then b else a) else (if b < a then b else a))) else none
  | _,_=>none
def sliceAV (H:List Obj) (es:Nat) (a:AV) (l h:Nat) (m:Bool):Option (AV×List Obj) :=
  match a with
  | .p .nsl=>if l = 0∧h = 0 then some (.p .nsl,H) else none
  | .p (.sl rows)=>if l ≤ h∧h ≤ rows.length∧rows.all (fun r=>r.length == es) then some (if m then .lit ((rows.drop l).take (h - l)) else .p (.sl ((rows.drop l).take (h - l))),H) else none
  | .lit []=>if l = 0∧h = 0 then some (.lit [],H) else none
  | .lit rows=>if l ≤ h∧h ≤ rows.length∧rows.all (fun r=>r.length == es) then some (if m then .lit ((rows.drop l).take (h - l)) else .p (.sl ((rows.drop l).take (h - l))),H) else none
  | .ar r v off len=>match H[r]? with
    | some (.arr es' fz ver rows)=>if es' = es∧l ≤ h∧h ≤ len∧off + len ≤ rows.length then
      (if m then (if seen fz ver v then some (.lit ((rows.drop (off + l)).take (h - l)),freeze H [r]) else none) else some (.ar r v (off + l) (h - l),H)) else none
    | _=>none
  | _=>none
def sameKey:Value→Value→Option Bool
  | .string a,.string b=>some (a == b)
  | _,_=>none
def mapFind (k:Value):List (Value×Value)→Option (Option Value)
  | []=>some none
  | (j,v) :: es=>(sameKey k j).bind fun t=>if t then some (some v) else mapFind k es
def mapSet (k v:Value):List (Value×Value)→Option (List (Value×Value))
  | []=>some [(k,v)]
  | (j,u) :: es=>(sameKey k j).bind fun t=>if t then some ((k,v) :: es) else (mapSet k v es).map ((j,u) :: ·)
def asStr:AV→Option ByteArray
  | .p (.v (.string s))=>some s
  | _=>none
def evStr (e:Fr) (x:SA):Option ByteArray:=(ev e x).bind asStr
def asBoolA:AV→Option Bool
  | .p (.v (.bool t))=>some t
  | _=>none
def evBool (e:Fr) (x:SA):Option Bool:=(ev e x).bind asBoolA
def nilckV:AV→Option AV
  | .ptr r o=>some (.ptr r o)
  | .elp l v i k=>some (.elp l v i k)
  | .imm c o=>some (.imm c o)
  | .fn (.func f) a b=>some (.fn (.func f) a b)
  | .yld l=>some (.yld l)
  | _=>none
def fadrV (off:Nat):AV→Option AV
  | .ptr r o=>some (.ptr r (o + off))
  | .elp l v i k=>some (.elp l v i (k + off))
  | .imm c o=>some (.imm c (o + off))
  | _=>none
def idxSl (H:List Obj) (es:Nat) (a:AV) (n:Int):Option AV :=
  if 0 ≤ n then
    match a with
    | .ar l v off len=>match H[l]? with
      | some (.arr es' fz ver _)=>if seen fz ver v∧es' = es∧n.toNat < len then some (.elp l v (off + n.toNat) 0) else none
      | _=>none
    | .p (.sl rows)=>(rows[n.toNat]?).bind fun r=>if r.length = es then some (.imm r 0) else none
    | .lit rows=>(rows[n.toNat]?).bind fun r=>if r.length = es then some (.imm r 0) else none
    | _=>none
  else none
def idxArr (len es:Nat) (a:AV) (n:Int):Option AV:=if 0 ≤ n∧n < len then fadrV (n.toNat * es) a else none
def idxStr (s:ByteArray) (n:Int):Option AV:=if 0 ≤ n then (s[n.toNat]?).map fun b=>.p (.v (.int .u8 b.toNat)) else none
def idxAgg (len:Nat) (g:Bool) (es:Nat) (a:AV) (n:Int):Option AV :=
  match a with
  | .agg cs=>if 0 ≤ n∧n < len∧n.toNat * es + es ≤ cs.length then
      (if g then some (.agg ((cs.drop (n.toNat * es)).take es)) else if es = 1 then cs[n.toNat * es]? else none) else none
  | _=>none
def extractV (i:Nat):AV→Option AV
  | .tup vs=>vs[i]?
  | _=>none
def sliceB (H:List Obj) (es:Nat) (a:AV) (l h:Int) (m:Option Int):Option (AV×List Obj) :=
  if 0 ≤ l∧0 ≤ h then
    match m with
    | none=>sliceAV H es a l.toNat h.toNat false
    | some m=>if m = h then sliceAV H es a l.toNat h.toNat true else none
  else none
def evIntOO (e:Fr):Option SA→Option (Option Int)
  | none=>some none
  | some x=>(evInt e x).map some
def mkSlice (H:List Obj) (bytes:Nat) (zero:List PV) (n m:Int):Option (AV×List Obj) :=
  if 0 ≤ n∧n ≤ m∧bytes * m ≤ 281474976710656∧m ≤ 9223372036854775807 then some (.ar H.length 0 0 n.toNat,H ++ [.arr zero.length none 0 (List.replicate n.toNat zero)]) else none
def appendV (H:List Obj) (bytes es:Nat) (a b:AV):Option (AV×List Obj) :=
  (rowsOf H b).bind fun ys=>if ys.all (fun r=>r.length == es) then
    match a with
    | .p .nsl=>if ys.isEmpty then some (.p .nsl,H) else if ys.length * bytes ≤ 140737488355328 then some (.ar H.length 0 0 ys.length,H ++ [.arr es none 0 ys]) else none
    | .lit rows=>if ys.isEmpty then some (.lit rows,H) else if (rows.length + ys.length) * bytes ≤ 140737488355328∧rows.all (fun r=>r.length == es) then some (.ar H.length 0 0 (rows.length + ys.length),H ++ [.arr es none 0 (rows ++ ys)]) else none
    | .ar l v 0 len=>match H[l]? with
      | some (.arr es' fz ver rows)=>if v = ver∧rows.length = len∧es' = es∧(len + ys.length) * bytes ≤ 140737488355328 then some (.ar l (ver + 1) 0 (len + ys.length),H.set l (.arr es fz (ver + 1) (rows ++ ys)))
        else if v = ver∧fz = none∧es' = es∧len + ys.length ≤ rows.length∧(len + ys.length) * bytes ≤ 140737488355328 then some (.ar l ver 0 (len + ys.length),H.set l (.arr es none ver (rows.take len ++ ys ++ rows.drop (len + ys.length)))) else none
      | _=>none
    | _=>none
  else none
def emptyNow:AV→Bool
  | .p .nsl=>true
  | .lit []=>true
  | _=>false
def appendZV (H:List Obj) (bytes:Nat) (zero:List PV) (a:AV) (n:Int):Option (AV×List Obj) :=
  if emptyNow a∧0 < n∧n.toNat * bytes ≤ 140737488355328 then some (.ar H.length 0 0 n.toNat,H ++ [.arr zero.length none 0 (List.replicate n.toNat zero)]) else none
def heads:List (List PV)→Option (List PV)
  | []=>some []
  | [x] :: r=>(heads r).map (x :: ·)
  | _=>none
def copyV (H:List Obj) (es:Nat) (a b:AV):Option (AV×List Obj) :=
  (rowsOf H b).bind fun ys=>(lenOf a).bind fun n =>
  if min n ys.length = 0 then some (.p (.v (.int .i64 0)),H) else
  match a with
  | .ar l v off len=>match H[l]? with
    | some (.arr es' none ver rows)=>if es' = es∧v = ver∧off + len ≤ rows.length∧ys.all (fun r=>r.length == es) then
        some (.p (.v (.int .i64 (min len ys.length:Nat))),H.set l (.arr es none ver (rows.take off ++ ys.take len ++ rows.drop (off + min len ys.length)))) else none
    | _=>none
  | .csl r off len=>match H[r]? with
    | some (.cells c)=>if es = 1 then (heads ys).bind fun xs=>(splice c off ((xs.take len).map .p)).map fun c=>(.p (.v (.int .i64 (min len ys.length:Nat))),H.set r (.cells c)) else none
    | _=>none
  | _=>none
def capNil:AV→Option Nat
  | .p .nsl=>some 0
  | .lit rows=>some rows.length
  | _=>none
def sliceArrV (len:Nat) (a:AV) (l h:Int):Option AV :=
  match a with
  | .ptr r off=>if 0 ≤ l∧l < len∧l ≤ h∧h ≤ len then some (.csl r (off + l.toNat) (h.toNat - l.toNat)) else none
  | _=>none
def cellVals:List AV→Option (List Value)
  | []=>some []
  | .p (.v x) :: as=>(cellVals as).map (x :: ·)
  | _=>none
def aggVals:AV→Option (List Value)
  | .agg cs=>cellVals cs
  | _=>none
def sameCells:List LK→List Value→List Value→Option Bool
  | [],_,_=>some true
  | .int :: ks,.int k a :: xs,.int j b :: ys=>if k = j then (sameCells ks xs ys).map fun t=>(a == b) && t else none
  | .bool :: ks,.bool a :: xs,.bool b :: ys=>(sameCells ks xs ys).map fun t=>(a == b) && t
  | .str :: ks,.string a :: xs,.string b :: ys=>(sameCells ks xs ys).map fun t=>(a.toList == b.toList) && t
  | _,_,_=>none
def strRows (s:ByteArray):List (List PV):=s.data.toList.map fun b=>[.v (.int .u8 b.toNat)]
def isNilI:Value→Option Bool
  | .nilIface=>some true
  | _=>none
def load1V (H:List Obj) (a:AV):Option AV :=
  match loadC H 1 a with
  | some [c]=>some c
  | _=>none
def evOp (e:Fr) (H:List Obj):SOp→Option (AV×List Obj)
  | .mov x=>(ev e x).map (·,H)
  | .pick c a b=>(evBool e c).bind fun t=>(if t then ev e a else ev e b).map (·,H)
  | .alloc zero=>some (.ptr H.length 0,H ++ [.cells zero])
  | .box x=>(ev e x).bind fun a=>(cellsOf a).map fun cs=>(.ptr H.length 0,H ++ [.cells cs])
  | .build zero ps=>(fill e zero ps).map fun cs=>(.agg cs,H)
  | .slit zero n ps=>(fillRows H e zero.length (List.replicate n zero) ps).map fun rows=>(.lit rows,freeze H (partArs e ps))
  | .load1 a=>(ev e a).bind fun p=>(load1V H p).map (·,H)
  | .loadn n a=>(ev e a).bind fun p=>(loadC H n p).map fun cs=>(.agg cs,H)
  | .store n a x=>(ev e a).bind fun p=>(ev e x).bind fun v=>(cellsOf v).bind fun cs=>if cs.length = n then (storeC H p cs).map fun H=>(.p .nsl,H) else none
  | .nilck x=>(ev e x).bind fun a=>(nilckV a).map (·,H)
  | .bin op x y=>(evVal e x).bind fun a=>(evVal e y).bind fun b=>(binV op a b).map fun r=>(.p (.v r),H)
  | .binB op x y=>(evVal e x).bind fun a=>(evVal e y).bind fun b=>(binB op a b).map fun r=>(.p (.v r),H)
  | .isnil neg x=>(ev e x).bind fun a=>(isNil a).map fun t=>(.p (.v (.bool (if neg then !t else t))),H)
  | .un op x=>(evVal e x).bind fun a=>(un op a).map fun r=>(.p (.v r),H)
  | .conv k x=>(evInt e x).map fun n=>(.p (.v (.int k (k.wrap n))),H)
  | .mkfn fn first cap=>(evs e first).bind fun a=>(evs e cap).map fun b=>(.fn fn a b,H)
  | .mkmap=>some (.map H.length,H ++ [.map []])
  | .mkslice bytes zero len cap=>(evInt e len).bind fun n=>(evInt e cap).bind fun m=>mkSlice H bytes zero n m
  | .slice es x lo hi mx=>(ev e x).bind fun a=>(lenOf a).bind fun n=>(evIntO e 0 lo).bind fun l=>(evIntO e n hi).bind fun h=>(evIntOO e mx).bind fun m=>sliceB H es a l h m
  | .sliceS x lo hi=>(evStr e x).bind fun s=>(evIntO e 0 lo).bind fun l=>(evIntO e s.size hi).bind fun h =>
      if 0 ≤ l∧l ≤ h∧h ≤ s.size then some (.p (.v (.string (s.extract l.toNat h.toNat))),H) else none
  | .fadr off x=>(ev e x).bind fun a=>(fadrV off a).map (·,H)
  | .idx es x i=>(ev e x).bind fun a=>(evInt e i).bind fun n=>(idxSl H es a n).map (·,H)
  | .idxA len es x i=>(ev e x).bind fun a=>(evInt e i).bind fun n=>(idxArr len es a n).map (·,H)
  | .idxS x i=>(evStr e x).bind fun s=>(evInt e i).bind fun n=>(idxStr s n).map (·,H)
  | .idxV len g es x i=>(ev e x).bind fun a=>(evInt e i).bind fun n=>(idxAgg len g es a n).map (·,H)
  | .b2s x=>(ev e x).bind fun a=>(rowsOf H a).bind fun rows=>(bytesOf rows).map fun l=>(.p (.v (.string ⟨l.toArray⟩)),H)
  | .extract x i=>(ev e x).bind fun a=>(extractV i a).map (·,H)
  | .len x=>(ev e x).bind fun a=>(lenOf a).map fun (n:Nat)=>(.p (.v (.int .i64 (n:Int))),H)
  | .lenS x=>(evStr e x).map fun s=>(.p (.v (.int .i64 s.size)),H)
  | .append bytes es x y=>(ev e x).bind fun a=>(ev e y).bind fun b=>appendV H bytes es a b
  | .copy es x y=>(ev e x).bind fun a=>(ev e y).bind fun b=>copyV H es a b
  | .maxmin mx x y=>(evVal e x).bind fun a=>(evVal e y).bind fun b=>(maxmin mx a b).map fun r=>(.p (.v r),H)
  | .mapget x k=>(evMap e x).bind fun r=>(evVal e k).bind fun k=>(mapAt H r).bind fun es=>(mapFind k es).bind fun v=>v.bind fun v=>if Scalar v then some (.p (.v v),H) else none
  | .mapset x k v=>(evMap e x).bind fun r=>(evVal e k).bind fun k=>(evVal e v).bind fun v=>(mapAt H r).bind fun es=>(mapSet k v es).map fun es=>(.p .nsl,H.set r (.map es))
  | .appendZ b z x n=>(ev e x).bind fun a=>(evInt e n).bind fun n=>appendZV H b z a n
  | .capN x=>(ev e x).bind fun a=>(capNil a).map fun (n:Nat)=>(.p (.v (.int .i64 (n:Int))),H)
  | .sliceArr len x lo hi=>(ev e x).bind fun a=>(evIntO e 0 lo).bind fun l=>(evIntO e len hi).bind fun h=>(sliceArrV len a l h).map (·,H)
  | .eqs ks neg x y=>(ev e x).bind fun a=>(ev e y).bind fun b=>(aggVals a).bind fun l=>(aggVals b).bind fun m=>if l.length = ks.length∧m.length = ks.length then (sameCells ks l m).map fun t=>(.p (.v (.bool (if neg then !t else t))),H) else none
  | .s2b x=>(evStr e x).bind fun s=>if s.size < 9223372036854775808 then some (.p (.sl (strRows s)),H) else none
  | .isnilI neg x=>(evVal e x).bind fun v=>(isNilI v).map fun t=>(.p (.v (.bool (if neg then !t else t))),H)
  | .call _ _=>none
mutual
def refs:AV→List Nat
  | .ar l _ _ _=>[l]
  | .ptr r _=>[r]
  | .elp l _ _ _=>[l]
  | .map r=>[r]
  | .yld l=>[l]
  | .csl r _ _=>[r]
  | .fn _ a b=>refsL a ++ refsL b
  | .agg cs=>refsL cs
  | .tup cs=>refsL cs
  | _=>[]
def refsL:List AV→List Nat
  | []=>[]
  | a :: as=>refs a ++ refsL as
end
def objRefs:Obj→List Nat
  | .cells c=>refsL c
  | .loop _ env _ _ _=>refsL (env.map (·.2))
  | _=>[]
mutual
def ren (f:Nat→Nat):AV→AV
  | .ar l v o n=>.ar (f l) v o n
  | .ptr r o=>.ptr (f r) o
  | .elp l v i k=>.elp (f l) v i k
  | .map r=>.map (f r)
  | .yld l=>.yld (f l)
  | .csl r o n=>.csl (f r) o n
  | .fn g a b=>.fn g (renL f a) (renL f b)
  | .agg cs=>.agg (renL f cs)
  | .tup cs=>.tup (renL f cs)
  | a=>a
def renL (f:Nat→Nat):List AV→List AV
  | []=>[]
  | a :: as=>ren f a :: renL f as
end
def renE (f:Nat→Nat) (env:List (Nat×AV)):List (Nat×AV):=env.map fun p=>(p.1,ren f p.2)
def renO (f:Nat→Nat):Obj→Obj
  | .cells c=>.cells (renL f c)
  | .loop st env ps a b=>.loop st (renE f env) ps a b
  | o=>o
def reach (H:List Obj):Nat→List Nat→List Nat→List Nat
  | 0,_,acc=>acc
  | _ + 1,[],acc=>acc
  | n + 1,r :: todo,acc=>if acc.contains r then reach H n todo acc else
      reach H n (((H[r]?).map objRefs).getD [] ++ todo) (acc ++ [r])
def within (ks:List Nat) (rs:List Nat):Bool:=rs.all ks.contains
def pickObjs (H:List Obj):List Nat→Option (List Obj)
  | []=>some []
  | r :: rs=>(H[r]?).bind fun o=>(pickObjs H rs).map fun os=>o :: os
def putBack (H:List Obj):List Nat→List Obj→List Obj
  | r :: rs,o :: os=>putBack (H.set r o) rs os
  | _,_=>H
def SA.key:SA→List Nat
  | .t n=>[n]
  | .x n=>[n]
  | _=>[]
def opKeys:SOp→List SA
  | .mov x | .box x | .load1 x | .loadn _ x | .nilck x | .isnil _ x | .un _ x | .conv _ x | .fadr _ x | .b2s x | .extract x _ | .len x | .lenS x | .capN x | .s2b x | .isnilI _ x=>[x]
  | .pick a b c=>[a,b,c]
  | .build _ ps=>ps.map (·.2.2)
  | .slit _ _ ps=>ps.map (·.2)
  | .store _ a x | .bin _ a x | .binB _ a x | .mkslice _ _ a x | .idx _ a x | .idxA _ _ a x | .idxS a x | .idxV _ _ _ a x | .append _ _ a x | .appendZ _ _ a x | .copy _ a x | .maxmin _ a x | .mapget a x=>[a,x]
  | .mkfn _ a b=>a ++ b
  | .slice _ x l h m=>x :: (l.toList ++ h.toList ++ m.toList)
  | .sliceS x l h=>x :: (l.toList ++ h.toList)
  | .sliceArr _ x l h=>x :: (l.toList ++ h.toList)
  | .eqs _ _ a x=>[a,x]
  | .call f as=>f :: as
  | .mapset a b c=>[a,b,c]
  | .alloc _ | .mkmap=>[]
def noRefs (e:Fr) (op:SOp):Bool:=(opKeys op).all fun x=>match ev e x with
  | some a=>(refs a).isEmpty
  | none=>true
structure SFunc where
  body:SCode
  results:List SOp
  raw:List Nat:=[]
  own:Bool:=false
  arity:Nat:=0
  deriving Inhabited
def begin0:Nat→List AV→Env
  | _,[]=>[]
  | n,a :: as=>(n,a) :: begin0 (n + 1) as
def isCall:SOp→Option (SA×List SA)
  | .call f args=>some (f,args)
  | _=>none
def wanted (o:SO) (e:Fr):Option Bool :=
  match o.guard with
  | none=>some true
  | some (a,b)=>match ev e a with
    | some (.p (.v (.bool t)))=>some (t == b)
    | some (.tup [])=>some false
    | _=>none
def dstPut (d:SD) (e:Fr) (v:AV):Fr :=
  match d with
  | .no=>e
  | .t n=>⟨(n,v) :: e.loc,e.env⟩
  | .x n=>⟨e.loc,upd e.env n v⟩
def dstDrop (d:SD) (e:Fr):Fr:=dstPut d e (.tup [])
def passArgs (H:List Obj) (raw:List Nat):Nat→List AV→Option (List AV)
  | _,[]=>some []
  | n,a :: as=>(if raw.contains n then some a else canon H a).bind fun b=>(passArgs H raw (n + 1) as).map fun bs=>b :: bs
def passFrz (raw:List Nat):Nat→List AV→List Nat
  | _,[]=>[]
  | n,a :: as=>(if raw.contains n then [] else arsOf [a]) ++ passFrz raw (n + 1) as
def flat:AV→Bool
  | .p (.v _)=>true
  | .p .nsl=>true
  | .tup vs=>vs.all fun | .p (.v _)=>true | .p .nsl=>true | _=>false
  | _=>false
def nodupB:List Nat→Bool
  | []=>true
  | r :: rs=>!rs.contains r && nodupB rs
def backTo (n:Nat) (sub news:List Nat) (i:Nat):Nat:=if i < sub.length then sub.getD i 0 else n + news.idxOf i
def comeBack (H H1:List Obj) (sub:List Nat) (own:Bool) (r:AV) (H2:List Obj):Option (AV×List Obj) :=
  (if own then some r else canon H2 r).bind fun r' =>
  if flat r' && sub.isEmpty then some (r',H) else
  let H3:=if own then H2 else freeze H2 (arsOf [r])
  let roots:=refs r' ++ ((H3.take sub.length).map objRefs).flatten
  let seen:=reach H3 (4 * H3.length * H3.length + 4) roots []
  let news:=seen.filter (sub.length ≤ ·)
  if within seen roots && seen.all (fun i=>within seen (((H3[i]?).map objRefs).getD [])) && nodupB news then
    (pickObjs H3 news).map fun os =>
      (ren (backTo H1.length sub news) r',putBack H1 sub ((H3.take sub.length).map (renO (backTo H1.length sub news))) ++ os.map (renO (backTo H1.length sub news)))
  else none
def loneV (u:AV×List Obj):Option (AV×List Obj):=if u.2.isEmpty then some u else comeBack [] [] [] false u.1 u.2
def stable (op:SOp) (e:Fr) (x:AV):List (List Obj)→Prop
  | []=>True
  | H :: Hs=>evOp e H op = some (x,H)∧stable op e x Hs
def stables:List DO→List (Fr×Option AV)→List (List Obj)→Prop
  | o :: os,(e,some x) :: tr,Hs=>(match o.k with
    | .read=>stable o.o.op e x ((Hs.drop o.lo).take (o.hi + 1 - o.lo))
    | _=>True)∧stables os tr Hs
  | _ :: os,(_,none) :: tr,Hs=>stables os tr Hs
  | _,_,_=>True
open Classical in
noncomputable def checked {α:Type} (p:Prop) (x:α):Option α:=if p then some x else none
structure Tr where
  recs:List (Fr×Option AV)
  stores:List (List Obj)
  s:St
def tupOf:List AV→AV
  | [r]=>r
  | rs=>.tup rs
def evRes (e:Fr) (H:List Obj):List SOp→Option (List AV)
  | []=>some []
  | o :: os=>(evOp e H o).bind fun r=>(evRes e H os).map fun rs=>r.1 :: rs
def isAmb:List AV→Bool
  | [.p (.sl [])]=>true
  | _=>false
def puts:Env→List Nat→List AV→Env
  | e,p :: ps,a :: as=>puts (upd e p a) ps as
  | e,_,_=>e
def stillV (H:List Obj):AV→AV
  | .ar l v off len=>match H[l]? with
    | some (.arr _ (some f) _ rows)=>if f ≤ v∧off + len ≤ rows.length then .p (.sl ((rows.drop off).take len)) else .ar l v off len
    | _=>.ar l v off len
  | a=>a
def stillE (ns:List Nat) (H:List Obj) (env:Env):Env:=env.map fun p=>(p.1,if ns.contains p.1 then stillV H p.2 else p.2)
def stillArs (ns:List Nat) (env:Env):List Nat:=env.flatMap fun p=>match p.2 with | .ar l _ _ _=>if ns.contains p.1 then [l] else [] | _=>[]
def stillS (ns:List Nat) (s:St):St:=⟨stillE ns (freeze s.H (stillArs ns s.env)) s.env,freeze s.H (stillArs ns s.env)⟩
def Obj.over:Obj:=.loop .gone [] [] .skip .skip
variable (X:FuncId→List AV→List Obj→Option (AV×List Obj)) (Γ:FuncId→Option SFunc)
noncomputable section
mutual
def exec (c:SCode) (s:St):Option (SExit×St) :=
  match c with
  | .skip=>some (.normal,s)
  | .region ops=>do let s ← evOps ops ⟨[],s.env⟩ s.H; some (.normal,s)
  | .draw ops=>do let r ← evDraw ops ⟨[],s.env⟩ s.H; checked (stables ops r.recs (r.stores ++ [r.s.H])) (.normal,r.s)
  | .seq a b=>do
    let r ← exec a s
    match r.1 with
    | .normal=>exec b r.2
    | x=>some (x,r.2)
  | .cond c a b=>match ev ⟨[],s.env⟩ c with
    | some (.p (.v (.bool t)))=>if t then exec a s else exec b s
    | _=>none
  | .block id b=>do
    let r ← exec b s
    match r.1 with
    | .exit i=>if i = id then some (.normal,r.2) else some (.exit i,r.2)
    | x=>some (x,r.2)
  | .loop b=>do
    let r ← exec b s
    match r.1 with
    | .normal=>exec (.loop b) r.2
    | x=>some (x,r.2)
  | .exit id=>some (.exit id,s)
  | .ret=>some (.ret,s)
  | .refuse=>none
  | .range f ps a b=>match ev ⟨[],s.env⟩ f with
    | some (.fn (.func g) first cap)=>do
      let r ← callAt g (first ++ [.yld s.H.length] ++ cap) (s.H ++ [.loop .ready s.env ps a b])
      match r.2[s.H.length]? with
      | some (.loop .ready _ _ _ _)=>some (.normal,⟨s.env,r.2.set s.H.length .over⟩)
      | some (.loop (.done x) _ _ _ _)=>some (x,⟨s.env,r.2.set s.H.length .over⟩)
      | _=>none
    | _=>none
  | .still ns c=>exec c (stillS ns s)
  partial_fixpoint
def evOps (ops:List SO) (e:Fr) (H:List Obj):Option St :=
  match ops with
  | []=>some ⟨e.env,H⟩
  | o :: os=>match wanted o e with
    | none=>none
    | some false=>evOps os (dstDrop o.dst e) H
    | some true=>do
      let r ← evOne o.op e H
      evOps os (dstPut o.dst e r.1) r.2
  partial_fixpoint
def evOne (op:SOp) (e:Fr) (H:List Obj):Option (AV×List Obj) :=
  match isCall op with
  | some (f,args)=>match ev e f,evs e args with
    | some (.fn (.func g) first cap),some args=>callAt g (first ++ args ++ cap) H
    | some (.yld l),some args=>yieldAt l args H
    | _,_=>none
  | none=>evOp e H op
  partial_fixpoint
def evDraw (ops:List DO) (e:Fr) (H:List Obj):Option Tr :=
  match ops with
  | []=>some ⟨[],[],⟨e.env,H⟩⟩
  | o :: os=>match wanted o.o e with
    | none=>none
    | some false=>do
      let r ← evDraw os (dstDrop o.o.dst e) H
      some ⟨(e,none) :: r.recs,if o.k.seq then H :: r.stores else r.stores,r.s⟩
    | some true=>match o.k with
      | .write=>do
        let v ← evOne o.o.op e H
        let r ← evDraw os (dstPut o.o.dst e v.1) v.2
        some ⟨(e,some v.1) :: r.recs,H :: r.stores,r.s⟩
      | .lone=>do
        let u ← evOne o.o.op e []
        let v ← loneV u
        if v.2.isEmpty && noRefs e o.o.op then do
          let r ← evDraw os (dstPut o.o.dst e v.1) H
          some ⟨(e,some v.1) :: r.recs,r.stores,r.s⟩
        else none
      | .fresh=>do
        let v ← evOp e H o.o.op
        let r ← evDraw os (dstPut o.o.dst e v.1) v.2
        some ⟨(e,some v.1) :: r.recs,H :: r.stores,r.s⟩
      | _=>do
        let v ← evOp e H o.o.op
        let r ← evDraw os (dstPut o.o.dst e v.1) H
        some ⟨(e,some v.1) :: r.recs,r.stores,r.s⟩
  partial_fixpoint
def yieldAt (l:Nat) (args:List AV) (H:List Obj):Option (AV×List Obj) :=
  match H[l]? with
  | some (.loop .ready env ps a b)=>if args.length ≠ ps.length then none else do
    let r ← exec a ⟨puts env ps args,H⟩
    match r.1,r.2.H[l]? with
    | .normal,some (.loop .ready env1 ps1 a1 b1)=>do
      let q ← exec b ⟨r.2.env,r.2.H.set l (.loop .busy env1 ps1 a1 b1)⟩
      match q.2.H[l]? with
      | some (.loop .busy env2 ps2 a2 b2)=>match q.1 with
        | .normal=>some (.p (.v (.bool true)),q.2.H.set l (.loop .ready env2 ps2 a2 b2))
        | x=>some (.p (.v (.bool false)),q.2.H.set l (.loop (.done x) env2 ps2 a2 b2))
      | _=>none
    | _,_=>none
  | _=>none
  partial_fixpoint
def callAt (g:FuncId) (args:List AV) (H:List Obj):Option (AV×List Obj) :=
  match Γ g with
  | none=>none
  | some fn=>match passArgs H fn.raw 0 args with
    | none=>none
    | some args' =>
      let H1:=freeze H (passFrz fn.raw 0 args)
      let sub:=reach H1 (4 * H1.length * H1.length + 4) (refsL args') []
      match pickObjs H1 sub with
      | none=>none
      | some os =>
        if within sub (refsL args') && os.all (fun o=>within sub (objRefs o)) && nodupB sub then do
          let r ← if fn.raw.contains 1000 && isAmb args' then do
              let r1 ← call g [.p .nsl] []
              let r2 ← call g [.emp] []
              checked (r1 = r2) r1
            else call g (renL sub.idxOf args') (os.map (renO sub.idxOf))
          comeBack H H1 sub fn.own r.1 r.2
        else none
  partial_fixpoint
def call (f:FuncId) (args:List AV) (H:List Obj):Option (AV×List Obj) :=
  match X f args H with
  | some r=>some r
  | none=>match Γ f with
  | none=>none
  | some fn=>if args.length ≠ fn.arity then none else do
    let r ← exec fn.body ⟨begin0 0 args,H⟩
    match r.1 with
    | .exit _=>none
    | _=>(evRes ⟨[],r.2.env⟩ r.2.H fn.results).map fun rs=>(tupOf rs,r.2.H)
  partial_fixpoint
end
end
end Go.Proofs.YtjkdcddpicndgaaGreatDoor
namespace Go.Proofs.YtjkdcddpicndgaaGreatDoor
open Go
abbrev I (k:IntKind) (n:Int):Value:=.int k n
abbrev bT:Value:=.bool true
abbrev bF:Value:=.bool false
abbrev Y (l:List UInt8):Value:=.string ⟨l.toArray⟩
abbrev i (n:Int):SA:=.c (.p (.v (.int .i64 n)))
abbrev C (v:Value):SA:=.c (.p (.v v))
abbrev o0 (op:SOp):SO:=⟨.no,op,none⟩
abbrev ot (n:Nat) (op:SOp):SO:=⟨.t n,op,none⟩
abbrev ox (n:Nat) (op:SOp):SO:=⟨.x n,op,none⟩
abbrev og (d:SD) (op:SOp) (a:SA) (b:Bool):SO:=⟨d,op,some (a,b)⟩
abbrev R (l:List SO):SCode:=.region l
abbrev D (l:List DO):SCode:=.draw l
abbrev q (a b:SCode):SCode:=.seq a b
abbrev k (c:SA) (a b:SCode):SCode:=.cond c a b
abbrev bl (n:Nat) (b:SCode):SCode:=.block n b
abbrev lp (b:SCode):SCode:=.loop b
abbrev ex (n:Nat):SCode:=.exit n
def lenTab:ByteArray:=⟨[0,1,2,2,3,3,3,3,4,4,4,4,4,4,4,4,5,5,5,5,5,5,5,5,5,5,5,5,5,5,5,5,6,6,6,6,6,6,6,6,6,6,6,6,6,6,6,6,6,6,6,6,6,6,6,6,6,6,6,6,6,6,6,6,7,7,7,7,7,7,7,7,7,7,7,7,7,7,7,7,7,7,7,7,7,7,7,7,7,7,7,7,7,7,7,7,7,7,7,7,7,7,7,7,7,7,7,7,7,7,7,7,7,7,7,7,7,7,7,7,7,7,7,7,7,7,7,7,8,8,8,8,8,8,8,8,8,8,8,8,8,8,8,8,8,8,8,8,8,8,8,8,8,8,8,8,8,8,8,8,8,8,8,8,8,8,8,8,8,8,8,8,8,8,8,8,8,8,8,8,8,8,8,8,8,8,8,8,8,8,8,8,8,8,8,8,8,8,8,8,8,8,8,8,8,8,8,8,8,8,8,8,8,8,8,8,8,8,8,8,8,8,8,8,8,8,8,8,8,8,8,8,8,8,8,8,8,8,8,8,8,8,8,8,8,8,8,8,8,8,8,8,8,8,8,8].toArray⟩
abbrev oTX (n k:Nat):SO:=⟨.t n,.mov (.x k),none⟩
abbrev oXT (n k:Nat):SO:=⟨.x n,.mov (.t k),none⟩
abbrev oXI (n:Nat) (k:Int):SO:=⟨.x n,.mov (i k),none⟩
abbrev oL (n k:Nat):SO:=⟨.t n,.load1 (.t k),none⟩
abbrev oF (n k m:Nat):SO:=⟨.t n,.fadr k (.t m),none⟩
abbrev oG (n k m:Nat):SO:=⟨.t n,.fadr k (.x m),none⟩
abbrev oC (n g:Nat) (l:List SA):SO:=⟨.t n,.call (.f g) l,none⟩
abbrev oB (n:Nat) (o:BinOp) (a b:SA):SO:=⟨.t n,.bin o a b,none⟩
abbrev dF (o:SO):DO:=⟨o,.free,0,0⟩
abbrev dH (o:SO):DO:=⟨o,.here,0,0⟩
abbrev dL (o:SO):DO:=⟨o,.lone,0,0⟩
abbrev pF:AV:=.p (.v bF)
abbrev p0:AV:=.p (.v (I .i64 0))
end Go.Proofs.YtjkdcddpicndgaaGreatDoor
