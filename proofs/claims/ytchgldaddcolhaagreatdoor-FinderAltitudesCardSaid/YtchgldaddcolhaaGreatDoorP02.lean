/- Part of the proof of Rows.FinderAltitudesCardSaid: EvO, EvO2, EvO3, EvO4, EvO5, EvO6, EvOa, EvOk. -/
import Derived.Laws.CopyRow
import Derived.Laws.Entries
import Derived.Laws.AppendOwn
import Derived.Laws.Slices
import Derived.Laws.BytesArg
import Derived.Laws.MakeOwn
import Derived.Test.YtchgldaddcolhaaGreatDoorP01
set_option linter.all false
namespace Go.Proofs.YtchgldaddcolhaaGreatDoor
open Go
variable[Sub]
structure EnvRel (w:World) (g:Gh) (H:List Obj) (tmps:Array Value) (e:Fr):Prop where
 loc:∀ t v,lk e.loc t = some v→Rep w g H (tmps.getD t undef) v
 env:∀ t v,lk e.env t = some v→Rep w g H (tmps.getD t undef) v
 glob:GlobOk w g
theorem cvt_rep{w:World}{g:Gh}{H:List Obj}{keep:Bool}{v:Value}{a:AV}(h:cvt keep v = some a):Rep w g H v a:=by
 unfold cvt at h
 split at h
 ·cases h
  cases keep
  ·exact .lit .nil
  ·exact .p .nsl
 all_goals first | (cases h; done) | skip
 cases h
 refine .p (.v ?_)
 cases v <;> first | rfl | skip
 case chan r _ _ _ _ _ _ _ _ _=>cases r <;> simp_all [Scalar]
 all_goals simp_all
theorem glFind_mem:∀ {l:List (Nat×List Value)} {n:Nat} {cs:List Value},glFind l n = some cs→(n,cs) ∈ l∧∀ c ∈ cs,Scalar c = true
 | [],_,_,h=>by cases h
 | (m,ds)::l,n,cs,h=>by
  rw[glFind]at h
  split at h
  ·rename_i e
   split at h
   ·rename_i ha
    cases h; subst e
    exact⟨List.mem_cons_self ..,List.all_eq_true.1 ha⟩
   ·cases h
  ·obtain⟨h1,h2⟩:=glFind_mem h
   exact⟨List.mem_cons_of_mem _ h1,h2⟩
theorem arg_rep{w:World}{g:Gh}{H:List Obj}{a:Act}{e:Fr}(he:EnvRel w g H a.tmps e){own:List Nat}{keep:Bool}{x:Operand}{sa:SA}{v:AV}(hc:compArg own keep x = some sa)(hv:ev e sa = some v):Rep w g H (a.eval x) v:=by
 cases x with
 | tmp t =>
  simp only[compArg]at hc
  split at hc
  ·cases hc; exact he.loc t v hv
  ·cases hc; exact he.env t v hv
 | const c =>
  simp only[compArg,Option.map_eq_some_iff]at hc
  obtain⟨b,hb,rfl⟩:=hc
  simp only[ev,Option.some.injEq]at hv
  subst hv
  exact cvt_rep hb
 | global n =>
  simp only[compArg,Option.map_eq_some_iff]at hc
  obtain⟨cs,hf,rfl⟩:=hc
  simp only[ev,Option.some.injEq]at hv
  subst hv
  obtain⟨hm,hsc⟩:=glFind_mem hf
  show Rep w g H (.pointer (some ⟨n,0 + 0,none⟩)) _
  refine .imm (i:=0) (fun j=>(cs[j]?).getD undef) (fun j hj=>?_) (fun j hj=>?_) (fun j x hx=>?_)
  ·simp only[List.length_map]at hj
   rw[Nat.zero_add]
   exact (he.glob n cs hm j cs[j] (by simp[hj])).1
  ·simp only[List.length_map]at hj
   rw[Nat.zero_add,(he.glob n cs hm j cs[j] (by simp[hj])).2]
   simp[hj]
  ·simp only[List.getElem?_map,Option.map_eq_some_iff]at hx
   obtain⟨c,hc,rfl⟩:=hx
   rw[hc]
   exact .v (hsc c (List.mem_of_getElem? hc))
 | func f =>
  simp only[compArg,Option.some.injEq]at hc
  subst hc
  simp only[ev,Option.some.injEq]at hv
  subst hv
  exact .fn rfl rfl (fun i c x h=>by simp at h) (fun i c x h=>by simp at h)
def OpSim(P:Program)(a:Act)(w:World)(g:Gh)(H:List Obj)(o:Oper)(v:AV)(H':List Obj):Prop :=
 ∃ cv w' g',((execOp a.eval o).run P w = .ok (.value cv) w'∨((execOp a.eval o).run P w = .ok .skip w'∧cv = undef)) ∧
  Evo w g H w' g' H'∧StRel w' g' H'∧(o.dst = none∨Rep w' g' H' cv v)
theorem OpSim.quiet{P:Program}{a:Act}{w:World}{g:Gh}{H:List Obj}{o:Oper}{v:AV}{cv:Value}(hs:StRel w g H)(hr:(execOp a.eval o).run P w = .ok (.value cv) w)(h:Rep w g H cv v):OpSim P a w g H o v H :=
 ⟨cv,w,g,.inl hr,.refl _ _ _,hs,.inr h⟩
section
variable{P:Program}{w:World}{g:Gh}{H:List Obj}
theorem RepP.int{D:Nat→Nat→Prop}{c:Value}{k:IntKind}{n:Int}(h:RepP w D c (.v (.int k n))):c = .int k n:=by cases h; rfl
theorem RepP.val{D:Nat→Nat→Prop}{c x:Value}(h:RepP w D c (.v x)):c = x∧Scalar x = true:=by cases h with | v h=>exact⟨rfl,h⟩
theorem Rep.val{c x:Value}(h:Rep w g H c (.p (.v x))):c = x∧Scalar x = true:=by cases h with | p h=>exact h.val
theorem Rep.v{x:Value}(h:Scalar x = true):Rep w g H x (.p (.v x)):=.p (.v h)
theorem run_shift{op:BinOp}{k j:IntKind}{m n:Int}{r:Value}(t:TypeId)(hop:op = .shl∨op = .shr)(h:shift op k m n = some r) :
  (Go.binOp op t (.int k m) (.int j n)).run P w = .ok r w∧Scalar r = true:=by
 unfold shift at h
 split at h
 ·cases h
 ·rename_i hn
  rcases hop with rfl | rfl <;> cases h <;> exact⟨by simp[Go.binOp,Op.shift,hn],rfl⟩
theorem run_int{op:BinOp}{k:IntKind}{m n:Int}{r:Value}(t:TypeId)(h1:op ≠ .shl)(h2:op ≠ .shr)(h:binInt op k m n = some r) :
  (Go.binOp op t (.int k m) (.int k n)).run P w = .ok r w∧Scalar r = true:=by
 cases op <;> simp only[binInt,bits]at h
 case quo | rem =>
  split at h
  ·cases h
  ·rename_i hne; cases h; exact⟨by simp[Go.binOp,Op.intDiv,hne],rfl⟩
 case shl=>exact absurd rfl h1
 case shr=>exact absurd rfl h2
 all_goals (cases h; exact⟨by simp[Go.binOp,Op.intArith,Op.intBits,Op.intCmp],rfl⟩)
theorem run_str{op:BinOp}{a b:ByteArray}{r:Value}(t:TypeId)(h:binV op (.string a) (.string b) = some r) :
  (Go.binOp op t (.string a) (.string b)).run P w = .ok r w∧Scalar r = true:=by
 cases op <;> simp only[binV]at h
 case add =>
  split at h
  ·rename_i hlt; cases h
   refine⟨?_,rfl⟩
   have:¬ (9223372036854775807 < (a.size:Int) + (b.size:Int)):=by omega
   simp[Go.binOp,Op.stringOp,IntKind.max,IntKind.bits,IntKind.signed,this]
  ·cases h
 case eql | neq=>cases h; exact⟨by simp[Go.binOp,Op.stringOp],rfl⟩
 all_goals cases h
theorem run_equalIn_bool(d:Nat){t:TypeId}(a b:Bool)(ht:P.underlying t = some .bool):(Op.equalIn (d + 1) t (.bool a) (.bool b)).run P w = .ok (a == b) w:=by
 simp[Op.equalIn,run_underlying ht]
theorem run_binB{op:BinOp}{u v r:Value}{t:TypeId}(ht:P.underlying t = some .bool)(h:binB op u v = some r) :
  (Go.binOp op t u v).run P w = .ok r w∧Scalar r = true:=by
 unfold binB at h
 split at h
 ·rename_i a b
  cases op <;> simp only at h
  case eql=>cases h; exact⟨by simp only[Go.binOp,Op.equal,Op.maxDepth,Sem.run_bind,run_equalIn_bool (w:=w) 9999 a b ht]; rfl,rfl⟩
  case neq=>cases h; exact⟨by simp only[Go.binOp,Op.equal,Op.maxDepth,Sem.run_bind,run_equalIn_bool (w:=w) 9999 a b ht]; rfl,rfl⟩
  all_goals cases h
 ·cases h
theorem run_binV{op:BinOp}{u v r:Value}{t:TypeId}(h:binV op u v = some r) :
  (Go.binOp op t u v).run P w = .ok r w∧Scalar r = true:=by
 cases u with
 | int k m =>
  cases v with
  | int j n =>
   by_cases h1:op = .shl
   ·subst h1; exact run_shift t (.inl rfl) h
   ·by_cases h2:op = .shr
    ·subst h2; exact run_shift t (.inr rfl) h
    ·have h':(if k = j then binInt op k m n else none) = some r:=by
      cases op <;> first | exact absurd rfl h1 | exact absurd rfl h2 | exact h
     split at h'
     ·rename_i hk; subst hk; exact run_int t h1 h2 h'
     ·cases h'
  | _=>simp[binV]at h
 | string s =>
  cases v with
  | string t'=>exact run_str t h
  | _=>simp[binV]at h
 | _=>simp[binV]at h
theorem guard_binV{op:BinOp}{u v r:Value}{xt:TypeId}{x y:Operand}(h:binV op u v = some r):(eqGuard op xt x y u v).run P w = .ok () w:=by
 cases u <;> cases v <;> first
  | (simp[binV]at h; done)
  | (clear h; cases op <;> rfl)
theorem guard_binB{op:BinOp}{u v r:Value}{xt:TypeId}{x y:Operand}(h:binB op u v = some r):(eqGuard op xt x y u v).run P w = .ok () w:=by
 cases u <;> cases v <;> first
  | (simp[binB]at h; done)
  | (clear h; cases op <;> rfl)
theorem evVal_some{e:Fr}{x:SA}{v:Value}(h:evVal e x = some v):ev e x = some (.p (.v v)):=by
 unfold evVal at h
 cases he:ev e x with
 | none=>rw[he]at h; cases h
 | some a =>
  rw[he]at h
  simp only[Option.bind_some]at h
  unfold asVal at h
  split at h
  ·cases h; rfl
  ·cases h
theorem evInt_some{e:Fr}{x:SA}{n:Int}(h:evInt e x = some n):∃ k,ev e x = some (.p (.v (.int k n))):=by
 unfold evInt at h
 cases he:ev e x with
 | none=>rw[he]at h; cases h
 | some a =>
  rw[he]at h
  simp only[Option.bind_some]at h
  unfold asInt at h
  split at h
  ·cases h; exact⟨_,rfl⟩
  ·cases h
theorem evStr_some{e:Fr}{x:SA}{s:ByteArray}(h:evStr e x = some s):ev e x = some (.p (.v (.string s))):=by
 unfold evStr at h
 cases he:ev e x with
 | none=>rw[he]at h; cases h
 | some a =>
  rw[he]at h
  simp only[Option.bind_some]at h
  unfold asStr at h
  split at h
  ·cases h; rfl
  ·cases h
theorem evBool_some{e:Fr}{x:SA}{s:Bool}(h:evBool e x = some s):ev e x = some (.p (.v (.bool s))):=by
 unfold evBool at h
 cases he:ev e x with
 | none=>rw[he]at h; cases h
 | some a =>
  rw[he]at h
  simp only[Option.bind_some]at h
  unfold asBoolA at h
  split at h
  ·cases h; rfl
  ·cases h
def RunV(P:Program)(a:Act)(w:World)(g:Gh)(H:List Obj)(o:Oper)(v:AV):Prop:=∃ cv,(execOp a.eval o).run P w = .ok (.value cv) w∧Rep w g H cv v
theorem RunV.sim{a:Act}{o:Oper}{v:AV}(hs:StRel w g H)(h:RunV P a w g H o v):OpSim P a w g H o v H:=let ⟨_,h1,h2⟩:=h; .quiet hs h1 h2
variable{a:Act}{dst:Option Tmp}{ty:TypeId}{pos:String}{after:Array Edge}{gd:Option (Nat×Bool)}
theorem run_move{x:Operand}{v:AV}(h:Rep w g H (a.eval x) v):RunV P a w g H ⟨dst,.move x,ty,pos,after,gd⟩ v:=⟨_,by simp[execOp],h⟩
theorem run_assign{x:Operand}{v:AV}(h:Rep w g H (a.eval x) v):RunV P a w g H ⟨dst,.assign x,ty,pos,after,gd⟩ v:=⟨_,by simp[execOp],h⟩
theorem run_pick{c x y:Operand}{t:Bool}{v:AV}(hc:Rep w g H (a.eval c) (.p (.v (.bool t))))(h:Rep w g H (if t then a.eval x else a.eval y) v) :
  RunV P a w g H ⟨dst,.pick c x y,ty,pos,after,gd⟩ v:=⟨if t then a.eval x else a.eval y,by simp[execOp,hc.val.1,asBool],h⟩
theorem run_bin{op:BinOp}{xt yt:TypeId}{x y:Operand}{u v r:Value}(hx:Rep w g H (a.eval x) (.p (.v u)))(hy:Rep w g H (a.eval y) (.p (.v v)))(h:binV op u v = some r) :
  RunV P a w g H ⟨dst,.binOp op xt x y yt,ty,pos,after,gd⟩ (.p (.v r)):=by
 have key:=run_binV (w:=w) (P:=P) (t:=xt) h
 exact⟨r,by simp[execOp,hx.val.1,hy.val.1,guard_binV (w:=w) (P:=P) (xt:=xt) (x:=x) (y:=y) h,key.1],.v key.2⟩
theorem run_binBool{op:BinOp}{xt yt:TypeId}{x y:Operand}{u v r:Value}(ht:P.underlying xt = some .bool)(hx:Rep w g H (a.eval x) (.p (.v u)))(hy:Rep w g H (a.eval y) (.p (.v v)))(h:binB op u v = some r) :
  RunV P a w g H ⟨dst,.binOp op xt x y yt,ty,pos,after,gd⟩ (.p (.v r)):=by
 have key:=run_binB (w:=w) (P:=P) ht h
 exact⟨r,by simp[execOp,hx.val.1,hy.val.1,guard_binB (w:=w) (P:=P) (xt:=xt) (x:=x) (y:=y) h,key.1],.v key.2⟩
theorem run_un{op:UnOp}{xt:TypeId}{x:Operand}{u r:Value}(hx:Rep w g H (a.eval x) (.p (.v u)))(h:un op u = some r) :
  RunV P a w g H ⟨dst,.unOp op xt x,ty,pos,after,gd⟩ (.p (.v r)):=by
 have key:(Op.unary op u).run P w = .ok r w∧Scalar r = true:=by
  cases u <;> cases op <;> first
   | (simp only[un]at h; cases h; exact⟨rfl,rfl⟩)
   | (simp[un]at h; done)
 exact⟨r,by simp[execOp,hx.val.1,key.1],.v key.2⟩
theorem run_conv{s d:TypeId}{x:Operand}{k:IntKind}{n:Int}{j:IntKind}{u:TypeDesc}(hsu:P.underlying s = some u)(hd:P.underlying d = some (.int k))(hx:Rep w g H (a.eval x) (.p (.v (.int j n)))) :
  RunV P a w g H ⟨dst,.convert s d x,ty,pos,after,gd⟩ (.p (.v (.int k (k.wrap n)))) :=
 ⟨_,by simp[execOp,hx.val.1,Go.convert,run_underlying hsu,run_underlying hd,Conv.intToInt],.v rfl⟩
theorem run_nilck{x:Operand}{u v:AV}(hx:Rep w g H (a.eval x) u)(h:nilckV u = some v):RunV P a w g H ⟨dst,.nilCheck x,ty,pos,after,gd⟩ v:=by
 have key:v = u∧(execOp a.eval ⟨dst,.nilCheck x,ty,pos,after,gd⟩).run P w = .ok (.value (a.eval x)) w:=by
  generalize hc:a.eval x = c at hx
  cases hx with
  | ptr h1=>cases h; exact⟨rfl,by simp[execOp,hc]⟩
  | elp h1=>cases h; exact⟨rfl,by simp[execOp,hc]⟩
  | imm=>cases h; exact⟨rfl,by simp[execOp,hc]⟩
  | fn h1 h2 h3 h4 =>
   rename_i f _ _ _ _
   cases f with
   | func f=>cases h; exact⟨rfl,by simp[execOp,hc]⟩
   | _=>simp[nilckV]at h
  | yld=>cases h; exact⟨rfl,by simp[execOp,hc]⟩
  | skp=>cases h; exact⟨rfl,by simp[execOp,hc]⟩
  | _=>simp[nilckV]at h
 exact⟨_,key.2,by rw[key.1]; exact hx⟩
theorem args_rep{kn:TypeId→Bool}{e:Fr}(he:EnvRel w g H a.tmps e){own:List Nat}:∀ {xs:List Operand} {ts:List TypeId} {sas:List SA} {vs:List AV},
  compArgs kn own xs ts = some sas→evs e sas = some vs→xs.length = vs.length∧∀ (i:Nat) (x:Operand) (v:AV),xs[i]? = some x→vs[i]? = some v→Rep w g H (a.eval x) v
 | [],ts,sas,vs,h1,h2=>by
  simp only[compArgs,Option.some.injEq]at h1
  subst h1
  simp only[evs,Option.some.injEq]at h2
  subst h2
  exact⟨rfl,fun i x v h=>by simp at h⟩
 | x::xs,ts,sas,vs,h1,h2=>by
  simp only[compArgs,Option.bind_eq_some_iff,Option.map_eq_some_iff]at h1
  obtain⟨sa,h3,sas',h4,rfl⟩:=h1
  simp only[evs,Option.bind_eq_some_iff,Option.some.injEq]at h2
  obtain⟨v,h5,vs',h6,rfl⟩:=h2
  obtain⟨ih1,ih2⟩:=args_rep he h4 h6
  refine⟨by simp[ih1],fun i y u hy hu=>?_⟩
  cases i with
  | zero=>simp at hy hu; subst hy; subst hu; exact arg_rep he h3 h5
  | succ i=>simp at hy hu; exact ih2 i y u hy hu
theorem map_rep{xs:Array Operand}{vs:List AV}(h1:xs.toList.length = vs.length)(h2:∀ (i:Nat) (x:Operand) (v:AV),xs.toList[i]? = some x→vs[i]? = some v→Rep w g H (a.eval x) v) :
  (xs.map a.eval).size = vs.length∧∀ (i:Nat) (c:Value) (v:AV),(xs.map a.eval)[i]? = some c→vs[i]? = some v→Rep w g H c v:=by
 refine⟨by simpa using h1,fun i c v hc hv=>?_⟩
 simp only[Array.getElem?_map,Option.map_eq_some_iff]at hc
 obtain⟨x,hx,rfl⟩:=hc
 exact h2 i x v (by simpa using hx) hv
theorem run_mkfn{fn:Fn}{x y:Array Operand}{us vs:List AV}(hx:x.toList.length = us.length)(hx2:∀ (i:Nat) (o:Operand) (v:AV),x.toList[i]? = some o→us[i]? = some v→Rep w g H (a.eval o) v)(hy:y.toList.length = vs.length)(hy2:∀ (i:Nat) (o:Operand) (v:AV),y.toList[i]? = some o→vs[i]? = some v→Rep w g H (a.eval o) v) :
  RunV P a w g H ⟨dst,.makeFunc fn x y,ty,pos,after,gd⟩ (.fn fn us vs):=by
 obtain⟨e1,e2⟩:=map_rep hx hx2
 obtain⟨f1,f2⟩:=map_rep hy hy2
 exact⟨_,by simp[execOp,Instr.makeFunc],.fn e1 f1 e2 f2⟩
theorem run_extract{x:Operand}{i:Nat}{u v:AV}(hx:Rep w g H (a.eval x) u)(h:extractV i u = some v):RunV P a w g H ⟨dst,.extract x i,ty,pos,after,gd⟩ v:=by
 generalize hc:a.eval x = c at hx
 cases hx with
 | tup ha hr =>
  simp only[extractV]at h
  rename_i arr aZ
  have hi:i < arr.size:=by have:=(List.getElem?_eq_some_iff.1 h).1; omega
  exact⟨arr[i],by simp[execOp,Instr.extract,hc,hi],hr i _ _ (by simp[hi]) h⟩
 | _=>simp[extractV]at h
theorem addr_add(b o n:Nat):(⟨b,o,none⟩:Addr).add n = ⟨b,o + n,none⟩:=by unfold Addr.add; split <;> simp_all
theorem fadrV_rep{n:Nat}{c:Value}{u v:AV}(hx:Rep w g H c u)(h:fadrV n u = some v):∃ p:Addr,c = .pointer (some p)∧Rep w g H (.pointer (some (p.add n))) v:=by
 cases hx with
 | ptr h1=>cases h; exact⟨_,rfl,by rw[addr_add]; exact .ptr h1⟩
 | elp h1 =>
  cases h
  refine⟨_,rfl,?_⟩
  rw[addr_add]
  obtain⟨es,fz,ver,rows,hH,hv,hi,hf⟩:=h1
  refine .elp ⟨es,fz,ver,rows,hH,hv,hi,fun hs=>?_⟩
  have h2:=hf hs
  cases fz with
  | none=>obtain⟨e1,e2⟩:=h2; exact⟨e1,by rw[e2,Nat.add_assoc]⟩
  | some f=>exact fun row hr j x hx=>by rw[Nat.add_assoc]; exact h2 row hr (n + j) x (by rw[← Nat.add_assoc]; exact hx)
 | imm cs hD hcell hr=>cases h; exact⟨_,rfl,by rw[addr_add,Nat.add_assoc]; exact .imm cs hD hcell hr⟩
 | skp h1 =>
  cases h
  refine⟨_,rfl,?_⟩
  rw[addr_add]
  obtain⟨es,ver,lens,rows,hH,hv,hf⟩:=h1
  exact .skp ⟨es,ver,lens,rows,hH,hv,fun hm=>⟨(hf hm).1,by rw[(hf hm).2,Nat.add_assoc]⟩⟩
 | _=>simp[fadrV]at h
theorem run_fadr{t:TypeId}{x:Operand}{f:Nat}{fs:Array Field}{fd:Field}{i:TypeInfo}{u v:AV}(ht:P.underlying t = some (.struct fs))(hf:fs[f]? = some fd)(hi:P.info? fd.type = some i)(hz:i.size ≠ 0)(hx:Rep w g H (a.eval x) u)(h:fadrV fd.offset u = some v):RunV P a w g H ⟨dst,.fieldAddr t x f,ty,pos,after,gd⟩ v:=by
 obtain⟨p,hc,hr⟩:=fadrV_rep hx h
 exact⟨_,by simp[execOp,hc,Instr.fieldAt,run_underlying ht,hf,Instr.sureAddr,fieldPlace,sizeOf,typeInfo,hi,hz],hr⟩
theorem RepP.one{D:Nat→Nat→Prop}{c:Value}{x:PV}(h:RepP w D c x):c.oneCell' = true:=by
 induction h with
 | @v c h=>cases c <;> first | rfl | (simp[Scalar]at h; done)
 | h _ ih=>exact ih
 | _=>rfl
theorem cellsOf_rep{c:Value}{v:AV}{cs:List AV}(h:Rep w g H c v)(hc:cellsOf v = some cs) :
  c.cells.size = cs.length∧∀ (i:Nat) (u:Value) (x:AV),c.cells[i]? = some u→cs[i]? = some x→Rep w g H u x∧u.oneCell' = true:=by
 have one:c.oneCell' = true→cellsOf v = some [v]→c.cells = #[c]→c.cells.size = cs.length∧∀ (i:Nat) (u:Value) (x:AV),c.cells[i]? = some u→cs[i]? = some x→Rep w g H u x∧u.oneCell' = true:=fun h1 h2 h3=>by
  rw[h2]at hc; cases hc
  rw[h3]
  refine⟨rfl,fun i u x hu hx=>?_⟩
  cases i with
  | zero=>simp at hu hx; subst hu; subst hx; exact⟨h,h1⟩
  | succ i=>simp at hx
 cases h with
 | agg ha h1 hr=>cases hc; exact⟨ha,fun i u x hu hx=>⟨hr i u x hu hx,h1 i u hu⟩⟩
 | tup=>cases hc
 | p h' =>
  have h1:=h'.one
  refine one h1 rfl ?_
  cases c <;> first | rfl | (simp[Value.oneCell']at h1; done)
 | lit _=>exact one rfl rfl rfl
 | ar _=>exact one rfl rfl rfl
 | ptr _=>exact one rfl rfl rfl
 | elp _=>exact one rfl rfl rfl
 | imm _ _ _ _=>exact one rfl rfl rfl
 | fn _ _ _ _=>exact one rfl rfl rfl
 | map _=>exact one rfl rfl rfl
 | yld _=>exact one rfl rfl rfl
 | emp=>exact one rfl rfl rfl
 | csl _ _=>exact one rfl rfl rfl
 | sk _=>exact one rfl rfl rfl
 | skp _=>exact one rfl rfl rfl
 | nk _=>exact one rfl rfl rfl
theorem len_rep{c:Value}{v:AV}{n:Nat}(h:Rep w g H c v)(hn:lenOf v = some n):∃ p cap,c = .slice p n cap∧n ≤ cap:=by
 cases h with
 | p h=>cases h <;> simp only[lenOf]at hn <;> cases hn <;> first | exact⟨_,_,rfl,Nat.le_refl _⟩ | (rename_i hl hc _ _ _ _; subst hl; exact⟨_,_,rfl,hc⟩)
 | lit h=>simp only[lenOf]at hn; cases hn; cases h with
  | nil=>exact⟨_,_,rfl,Nat.le_refl _⟩
  | sl cs hl hc=>subst hl; exact⟨_,_,rfl,hc⟩
 | ar h=>simp only[lenOf]at hn; cases hn; exact⟨_,_,rfl,h.1⟩
 | emp=>simp only[lenOf]at hn; cases hn; exact⟨_,_,rfl,Nat.zero_le _⟩
 | nk=>simp only[lenOf]at hn; cases hn; exact⟨_,_,rfl,Nat.zero_le _⟩
 | sk h=>simp only[lenOf]at hn; cases hn; exact⟨_,_,rfl,h.1⟩
 | csl h hle=>simp only[lenOf]at hn; cases hn; exact⟨_,_,rfl,hle⟩
 | _=>simp[lenOf]at hn
theorem run_len{c:Call}{x:Operand}{t e:TypeId}{v:AV}{n:Nat}(hc:c.callee = .builtin .len)(ha:c.args.toList = [x])(ht:c.argTypes[0]? = some t)(hu:P.underlying t = some (.slice e))(hx:Rep w g H (a.eval x) v)(h:lenOf v = some n):RunV P a w g H ⟨dst,.call c,ty,pos,after,gd⟩ (.p (.v (.int .i64 n))):=by
 obtain⟨p,cap,hv,_⟩:=len_rep hx h
 have ha':c.args = #[x]:=by rw[← Array.toList_inj]; exact ha
 exact⟨_,by simp[execOp,resolve,hc,ha',Go.invoke,Go.builtin,Builtin.len_,ht,run_underlying hu,hv,goInt],.v rfl⟩
theorem run_lenS{c:Call}{x:Operand}{t:TypeId}{s:ByteArray}(hc:c.callee = .builtin .len)(ha:c.args.toList = [x])(ht:c.argTypes[0]? = some t)(hu:P.underlying t = some .string)(hx:Rep w g H (a.eval x) (.p (.v (.string s)))):RunV P a w g H ⟨dst,.call c,ty,pos,after,gd⟩ (.p (.v (.int .i64 s.size))):=by
 have ha':c.args = #[x]:=by rw[← Array.toList_inj]; exact ha
 exact⟨_,by simp[execOp,resolve,hc,ha',Go.invoke,Go.builtin,Builtin.len_,ht,run_underlying hu,hx.val.1,goInt],.v rfl⟩
theorem load_rep{c:Value}{v:AV}{n:Nat}{cs:List AV}(hs:StRel w g H)(h:Rep w g H c v)(hl:loadC H n v = some cs) :
  ∃ p:Addr,c = .pointer (some p)∧cs.length = n∧∃ f:Nat→Value,∀ j,j < n→w.cell? (p.add j) = some (f j)∧(f j).oneCell' = true∧∀ x,cs[j]? = some x→Rep w g H (f j) x:=by
 have fin:∀ (b o:Nat) (cs:List AV),cs.length = n→(∀ (j:Nat) (x:AV),cs[j]? = some x→∃ cv,cellAt w b (o + j) = some cv∧cv.oneCell' = true∧Rep w g H cv x) →
   ∃ f:Nat→Value,∀ j,j < n→w.cell? ((⟨b,o,none⟩:Addr).add j) = some (f j)∧(f j).oneCell' = true∧∀ x,cs[j]? = some x→Rep w g H (f j) x:=fun b o cs hn hcs=>by
  refine⟨fun j=>(cellAt w b (o + j)).getD undef,fun j hj=>?_⟩
  obtain⟨cv,h1,h2,h3⟩:=hcs j cs[j] (by simp[hn,hj])
  rw[addr_add]
  have hv:(cellAt w b (o + j)).getD undef = cv:=by rw[h1]; rfl
  show w.cell? ⟨b,o + j,none⟩ = some ((cellAt w b (o + j)).getD undef)∧((cellAt w b (o + j)).getD undef).oneCell' = true∧∀ x,cs[j]? = some x→Rep w g H ((cellAt w b (o + j)).getD undef) x
  rw[hv]
  refine⟨h1,h2,fun x hx=>?_⟩
  have:cs[j]? = some cs[j]:=by simp[hn,hj]
  rw[this]at hx; cases hx; exact h3
 cases h with
 | ptr hH =>
  simp only[loadC,hH]at hl
  split at hl
  ·rename_i hle
   cases hl
   obtain⟨vs,e,h1,h2,h3⟩:=hs.objs _ _ hH
   refine⟨_,rfl,by simp; omega,fin _ _ _ (by simp; omega) (fun j x hx=>?_)⟩
   rw[List.getElem?_take]at hx
   split at hx
   ·rw[List.getElem?_drop]at hx
    rename_i off c hj
    have hlt:off + j < vs.size:=by have:=(List.getElem?_eq_some_iff.1 hx).1; omega
    have:=h3 (off + j) vs[off + j] x (by simp[hlt]) hx
    exact⟨vs[off + j],by rw[cellAt_cells h1]; simp[hlt],this.2,this.1⟩
   ·cases hx
  ·cases hl
 | elp he =>
  obtain⟨es,fz,ver,rows,hH,hv,hi,hf⟩:=he
  simp only[loadC,hH]at hl
  split at hl
  ·rename_i hsn
   have h2:=hf hsn
   simp only[Option.bind_eq_some_iff]at hl
   obtain⟨row,hrow,hl⟩:=hl
   split at hl
   ·rename_i hle
    cases hl
    obtain⟨_,_,_,h5,_⟩:=hs.objs _ _ hH
    refine⟨_,rfl,by simp; omega,fin _ _ _ (by simp; omega) (fun j x hx=>?_)⟩
    simp only[List.getElem?_map,Option.map_eq_some_iff]at hx
    obtain⟨y,hy,rfl⟩:=hx
    rw[List.getElem?_take]at hy
    split at hy
    ·rw[List.getElem?_drop]at hy
     cases fz with
     | none =>
      obtain⟨e1,e2⟩:=h2
      obtain⟨cv,e3,e4⟩:=h5 _ _ row y hrow hy
      exact⟨cv,by rw[e1,e2,Nat.add_assoc]; exact e3,e4.one,.p e4⟩
     | some f =>
      obtain⟨_,cv,e3,e4⟩:=h2 row hrow j y hy
      exact⟨cv,e3,e4.one,.p e4⟩
    ·cases hy
   ·cases hl
  ·cases hl
 | imm cs' hD hcell hr =>
  simp only[loadC]at hl
  split at hl
  ·rename_i hle
   cases hl
   refine⟨_,rfl,by simp; omega,fin _ _ _ (by simp; omega) (fun j x hx=>?_)⟩
   simp only[List.getElem?_map,Option.map_eq_some_iff]at hx
   obtain⟨y,hy,rfl⟩:=hx
   rw[List.getElem?_take]at hy
   split at hy
   ·rw[List.getElem?_drop]at hy
    have hlt:=(List.getElem?_eq_some_iff.1 hy).1
    exact⟨cs' _,by rw[Nat.add_assoc]; exact hcell _ hlt,(hr _ y hy).one,.p (hr _ y hy)⟩
   ·cases hy
  ·cases hl
 | skp he =>
  obtain⟨es,ver,lens,rows,hH,hv,hf⟩:=he
  simp only[loadC,hH]at hl
  split at hl
  ·rename_i hsn
   rw[List.any_eq_true]at hsn
   obtain⟨⟨v',m⟩,hm,hvm⟩:=hsn
   simp only[Bool.and_eq_true,beq_iff_eq,decide_eq_true_eq]at hvm
   obtain⟨rfl,him⟩:=hvm
   simp only[Option.bind_eq_some_iff]at hl
   obtain⟨row,hrow,hl⟩:=hl
   split at hl
   ·rename_i hle
    cases hl
    obtain⟨_,_,h3⟩:=hs.objs _ _ hH
    obtain⟨_,_,_,_,_,a7⟩:=h3 _ _ hm
    obtain⟨e1,e2⟩:=hf ⟨_,hm⟩
    refine⟨_,rfl,by simp; omega,fin _ _ _ (by simp; omega) (fun j x hx=>?_)⟩
    rw[List.getElem?_take]at hx
    split at hx
    ·rw[List.getElem?_drop]at hx
     obtain⟨c,c1,c2,c3⟩:=a7 _ _ row x him hrow hx
     exact⟨c,by rw[e1,e2,Nat.add_assoc]; exact c1,c3,c2⟩
    ·cases hx
   ·cases hl
  ·cases hl
 | _=>simp[loadC]at hl
theorem run_load1{t:TypeId}{x:Operand}{d:TypeDesc}{u v:AV}(hs:StRel w g H)(hu:P.underlying t = some d)(hd:aggT d = false)(hx:Rep w g H (a.eval x) u)(h:load1V H u = some v):RunV P a w g H ⟨dst,.load t x,ty,pos,after,gd⟩ v:=by
 unfold load1V at h
 split at h
 ·rename_i c hl
  cases h
  obtain⟨p,hc,hn,f,hf⟩:=load_rep hs hx hl
  obtain⟨h1,h2,h3⟩:=hf 0 (by omega)
  have h1':w.cell? p = some (f 0):=by simpa [Addr.add] using h1
  refine⟨f 0,?_,h3 _ rfl⟩
  have hagg:(isAgg t).run P w = .ok false w:=by
   simp only[isAgg,Sem.run_bind,run_underlying hu,Result.andThen_ok]
   cases d <;> first | rfl | (simp[aggT]at hd; done)
  simp[execOp,hc,Instr.loadAt,Instr.sureAddr,loadVar,hagg,h1']
 ·cases h
theorem run_loadn{t:TypeId}{x:Operand}{d:TypeDesc}{i:TypeInfo}{u:AV}{cs:List AV}(hs:StRel w g H)(hu:P.underlying t = some d)(hd:aggT d = true)(hi:P.info? t = some i)(hx:Rep w g H (a.eval x) u)(h:loadC H i.size u = some cs):RunV P a w g H ⟨dst,.load t x,ty,pos,after,gd⟩ (.agg cs):=by
 obtain⟨p,hc,hn,f,hf⟩:=load_rep hs hx h
 have hagg:(isAgg t).run P w = .ok true w:=by
  simp only[isAgg,Sem.run_bind,run_underlying hu,Result.andThen_ok]
  cases d <;> first | rfl | (simp[aggT]at hd; done)
 have hld:=run_loadCells (P:=P) w p i.size f (fun j hj=>(hf j hj).1)
 refine⟨.agg ((List.range i.size).map f).toArray,by simp[execOp,hc,Instr.loadAt,Instr.sureAddr,loadVar,hagg,sizeOf,typeInfo,hi,hld],.agg (by simp[hn]) (fun j c hj=>?_) (fun j c y hj hy=>?_)⟩
 ·simp only[List.getElem?_toArray,List.getElem?_map,Option.map_eq_some_iff]at hj
  obtain⟨k,hk,rfl⟩:=hj
  obtain⟨hlt,rfl⟩:=List.getElem?_eq_some_iff.1 hk
  simp only[List.getElem_range,List.length_range]at hlt ⊢
  exact (hf j hlt).2.1
 ·simp only[List.getElem?_toArray,List.getElem?_map,Option.map_eq_some_iff]at hj
  obtain⟨k,hk,rfl⟩:=hj
  obtain⟨hlt,rfl⟩:=List.getElem?_eq_some_iff.1 hk
  simp only[List.getElem_range,List.length_range]at hlt ⊢
  exact (hf j hlt).2.2 y hy
end
end Go.Proofs.YtchgldaddcolhaaGreatDoor
namespace Go.Proofs.YtchgldaddcolhaaGreatDoor
open Go
variable[Sub]
section
variable{P:Program}{w:World}{g:Gh}{H:List Obj}
variable{a:Act}{dst:Option Tmp}{ty:TypeId}{pos:String}{after:Array Edge}{gd:Option (Nat×Bool)}
theorem isNil_rep{c:Value}{v:AV}{t:Bool}(h:Rep w g H c v)(hn:isNil v = some t):∃ p n cap,c = .slice p n cap∧p.isNone = t:=by
 cases h with
 | p h =>
  cases h with
  | nsl=>cases hn; exact⟨_,_,_,rfl,rfl⟩
  | nil=>cases hn
  | @sl _ _ _ _ _ rows=>cases rows <;> cases hn; exact⟨_,_,_,rfl,rfl⟩
  | v=>cases hn
  | @h _ s n h =>
   cases s with
   | false=>cases hn
   | true =>
    cases hn
    obtain⟨r,rs,e⟩:=Sub.ne n
    rw[e]at h
    cases h
    exact⟨_,_,_,rfl,rfl⟩
 | @lit _ _ rows h =>
  cases rows with
  | nil=>cases hn
  | cons r rs=>cases hn; cases h; exact⟨_,_,_,rfl,rfl⟩
 | @ar l v off len p cap h =>
  cases len with
  | zero=>cases hn
  | succ n =>
   cases hn
   obtain⟨h1,h2,_⟩:=h
   rcases h2 with ⟨rfl,rfl⟩ | ⟨b,o,rfl⟩
   ·omega
   ·exact⟨_,_,_,rfl,rfl⟩
 | emp=>cases hn; exact⟨_,_,_,rfl,rfl⟩
 | @sk l v n cap a h =>
  cases n with
  | zero=>cases hn
  | succ n =>
   cases hn
   obtain⟨h1,h2,_⟩:=h
   rcases h2 with ⟨rfl,rfl⟩ | ⟨b,o,rfl⟩
   ·omega
   ·exact⟨_,_,_,rfl,rfl⟩
 | _=>cases hn
theorem run_equal_nil{t e:TypeId}(ht:P.underlying t = some (.slice e))(p:Option Addr)(n cap:Nat) :
  (Op.equal t (.slice p n cap) (.slice none 0 0)).run P w = .ok p.isNone w:=by
 have key:∀ d:Nat,(Op.equalIn (d + 1) t (.slice p n cap) (.slice none 0 0)).run P w = .ok p.isNone w:=fun d=>by cases p <;> simp[Op.equalIn,run_underlying ht]
 exact key 9999
theorem run_isnil{t e:TypeId}{x:Operand}{yt:TypeId}{op:BinOp}{neg:Bool}{u:AV}{r:Bool}(ht:P.underlying t = some (.slice e))(hop:op = if neg then .neq else .eql)(hx:Rep w g H (a.eval x) u)(h:isNil u = some r):RunV P a w g H ⟨dst,.binOp op t x (.const (.slice none 0 0)) yt,ty,pos,after,gd⟩ (.p (.v (.bool (if neg then !r else r)))):=by
 obtain⟨p,n,cap,hc,hp⟩:=isNil_rep hx h
 have hq:=run_equal_nil (w:=w) (P:=P) ht p n cap
 have he:a.eval (.const (.slice none 0 0)) = .slice none 0 0:=rfl
 subst hop
 cases neg
 ·refine⟨.bool r,?_,.v rfl⟩
  simp[execOp,hc,he,eqGuard,Go.binOp,hq,hp]
 ·refine⟨.bool (!r),?_,.v rfl⟩
  simp[execOp,hc,he,eqGuard,Go.binOp,hq,hp]
theorem RepP.rows{D:Nat→Nat→Prop}{p:Option Addr}{n cap es:Nat}{rows:List (List PV)}(h:RepP w D (.slice p n cap) (.sl rows))(hes:∀ r ∈ rows,r.length = es) :
  rows.length = n∧n ≤ cap∧AddrOk p cap∧(0 < n→∃ b o,p = some ⟨b,o,none⟩∧∀ (i j:Nat) (row:List PV) (x:PV),rows[i]? = some row→row[j]? = some x →
   D b (o + i * es + j)∧∃ c,cellAt w b (o + i * es + j) = some c∧RepP w D c x):=by
 cases h with
 | nil=>exact⟨rfl,Nat.le_refl _,.inl ⟨rfl,rfl⟩,fun h=>by omega⟩
 | @sl b o _ _ es' _ cs hn hc hes' hD hcell hr =>
  refine⟨hn,hc,.inr ⟨b,o,rfl⟩,fun h0=>⟨b,o,rfl,fun i j row x hi hj=>?_⟩⟩
  have he:es' = es:=by
   have h1:0 < rows.length:=by omega
   rw[← hes' rows[0] (List.getElem_mem h1),← hes rows[0] (List.getElem_mem h1)]
  subst he
  have hi':i < n:=by have:=(List.getElem?_eq_some_iff.1 hi).1; omega
  have hj':j < es':=by have:=(List.getElem?_eq_some_iff.1 hj).1; rw[hes' row (List.mem_of_getElem? hi)]at this; exact this
  exact⟨hD i j hi' hj',cs i j,hcell i j hi' hj',hr i j row x hi hj⟩
theorem all_len{rows:List (List PV)}{es:Nat}(h:rows.all (fun r=>r.length == es) = true):∀ r ∈ rows,r.length = es:=fun r hr=>by
 have:=List.all_eq_true.1 h r hr
 simpa using this
theorem RepP.sub{D:Nat→Nat→Prop}{p:Option Addr}{n cap cap' es l h:Nat}{rows:List (List PV)}(hr:RepP w D (.slice p n cap) (.sl rows))(hes:∀ r ∈ rows,r.length = es)(hlh:l ≤ h)(hh:h ≤ n)(m:Nat)(hm:h ≤ m)(hmc:m ≤ cap)(hc':cap' = m - l) :
  RepP w D (.slice (if m = l then p else p.map (·.add (l * es))) (h - l) cap') (.sl ((rows.drop l).take (h - l))):=by
 obtain⟨h1,h2,h3,h4⟩:=hr.rows hes
 rcases h3 with ⟨rfl,rfl⟩ | ⟨b,o,rfl⟩
 ·have:h - l = 0:=by omega
  have h0:cap' = 0:=by omega
  rw[this,h0]
  simp only[List.take_zero]
  split
  ·exact .nil
  ·exact .nil
 ·have hlen:((rows.drop l).take (h - l)).length = h - l:=by simp; omega
  have hmem:∀ r ∈ (rows.drop l).take (h - l),r.length = es:=fun r hr=>hes r (List.mem_of_mem_drop (List.mem_of_mem_take hr))
  by_cases e:m = l
  ·rw[if_pos e]
   have h0:h - l = 0:=by omega
   refine RepP.of_rows (es:=es) hlen (by omega) hmem (fun i j row x hi _=>?_)
   rw[h0]at hi
   simp at hi
  ·rw[if_neg e]
   simp only[Option.map_some,addr_add]
   refine RepP.of_rows (es:=es) hlen (by omega) hmem (fun i j row x hi hj=>?_)
   have hi':rows[l + i]? = some row:=by
    rw[List.getElem?_take]at hi
    split at hi
    ·rwa [List.getElem?_drop]at hi
    ·cases hi
   have hlt:l + i < rows.length:=(List.getElem?_eq_some_iff.1 hi').1
   obtain⟨b',o',he,hcell⟩:=h4 (by omega)
   cases he
   have:=hcell (l + i) j row x hi' hj
   rwa [show o + (l + i) * es + j = o + l * es + i * es + j by rw[Nat.add_mul]; omega]at this
theorem run_idx{t e:TypeId}{ti:TypeInfo}{x y:Operand}{u v:AV}{k:IntKind}{n:Int}(hs0:StRel w g H)(ht:P.underlying t = some (.slice e))(hi:P.info? e = some ti)(hx:Rep w g H (a.eval x) u)(hy:Rep w g H (a.eval y) (.p (.v (.int k n))))(h:idxSl H ti.size u n = some v):RunV P a w g H ⟨dst,.indexAddr t x y,ty,pos,after,gd⟩ v:=by
 unfold idxSl at h
 split at h
 ·rename_i hn
  have run:∀ (p:Addr) (len cap:Nat),a.eval x = .slice (some p) len cap→n.toNat < len →
    (execOp a.eval ⟨dst,.indexAddr t x y,ty,pos,after,gd⟩).run P w = .ok (.value (.pointer (some (p.add (n.toNat * ti.size))))) w:=fun p len cap hc hlt=>by
   have:0 ≤ n∧n < len:=⟨hn,by omega⟩
   simp[execOp,Instr.indexAt,hc,hy.val.1,asIntOf,run_underlying ht,this,sizeOf,typeInfo,hi]
  have still:∀ (p:Option Addr) (len cap:Nat) (rows:List (List PV)) (row:List PV),a.eval x = .slice p len cap→RepP w g.D (.slice p len cap) (.sl rows)→rows[n.toNat]? = some row→row.length = ti.size →
    RunV P a w g H ⟨dst,.indexAddr t x y,ty,pos,after,gd⟩ (.imm row 0):=fun p len cap rows row hc hr hrow hl=>by
   cases hr with
   | nil=>simp at hrow
   | @sl b o _ _ es' _ cs hn' hc' hes' hD hcell hr' =>
    have hlt:n.toNat < len:=by have:=(List.getElem?_eq_some_iff.1 hrow).1; omega
    have he:es' = ti.size:=by rw[← hes' row (List.mem_of_getElem? hrow),hl]
    subst he
    refine⟨_,run _ _ _ hc hlt,?_⟩
    rw[addr_add]
    exact .imm (i:=o + n.toNat * ti.size) (off:=0) (fun j=>cs n.toNat j) (fun j hj=>hD _ _ hlt (by omega)) (fun j hj=>hcell _ _ hlt (by omega)) (fun j x hx=>hr' _ _ row x hrow hx)
  generalize hc:a.eval x = c at hx
  cases hx with
  | @ar l v' off len p cap hA =>
   obtain⟨h1,h2,es,fz,ver,rows,hH,hv,hoff,hf⟩:=hA
   simp only[hH]at h
   split at h
   ·rename_i hcond
    obtain⟨hs,rfl,hlt⟩:=hcond
    cases h
    obtain⟨h3,_⟩:=hf hs
    cases fz with
    | none =>
     have:=h3 (by omega)
     subst this
     refine⟨_,run _ _ _ hc hlt,?_⟩
     rw[addr_add]
     exact .elp ⟨_,none,ver,rows,hH,hv,by omega,fun _=>⟨rfl,by rw[Nat.add_mul]; omega⟩⟩
    | some f =>
     have hr:RepP w g.D (.slice p len cap) (.sl ((rows.drop off).take len)):=h3
     cases hr':(rows.drop off).take len with
     | nil =>
      have:((rows.drop off).take len).length = 0:=by rw[hr']; rfl
      simp at this; omega
     | cons r0 rs =>
      rw[hr']at hr
      cases hr with
      | @sl b o _ _ es' _ cs hn' hc' hes' hD hcell hr2 =>
       refine⟨_,run _ _ _ hc hlt,?_⟩
       rw[addr_add]
       refine .elp ⟨_,some f,ver,rows,hH,hv,by omega,fun _=>?_⟩
       intro row hrow j x' hx'
       have hrow':(r0::rs)[n.toNat]? = some row:=by
        rw[← hr',List.getElem?_take,if_pos hlt,List.getElem?_drop]; exact hrow
       have hx2:row[j]? = some x':=by simpa using hx'
       have hjl:j < es':=by have:=(List.getElem?_eq_some_iff.1 hx2).1; rw[hes' row (List.mem_of_getElem? hrow')]at this; exact this
       have he:es' = ti.size:=by
        obtain⟨_,hes,_⟩:=hs0.objs _ _ hH
        rw[← hes' row (List.mem_of_getElem? hrow'),hes row (List.mem_of_getElem? hrow)]
       subst he
       exact⟨hD _ _ hlt hjl,_,hcell _ _ hlt hjl,hr2 _ _ row x' hrow' hx2⟩
   ·cases h
  | p hp =>
   cases hp with
   | v=>cases h
   | nsl=>cases h
   | nil=>simp at h
   | h=>cases h
   | sl cs hn' hc' hes' hD hcell hr' =>
    simp only[Option.bind_eq_some_iff]at h
    obtain⟨row,hrow,h⟩:=h
    split at h
    ·rename_i hl; cases h
     exact still _ _ _ _ _ hc (.sl cs hn' hc' hes' hD hcell hr') hrow hl
    ·cases h
  | lit hp =>
   simp only[Option.bind_eq_some_iff]at h
   obtain⟨row,hrow,h⟩:=h
   split at h
   ·rename_i hl; cases h
    exact still _ _ _ _ _ hc hp hrow hl
   ·cases h
  | csl hH hn' =>
   simp only at h
   split at h
   ·rename_i hc2
    obtain⟨he,hlt⟩:=hc2
    cases h
    refine⟨_,run _ _ _ hc hlt,?_⟩
    rw[addr_add,he,Nat.mul_one]
    exact .ptr hH
   ·cases h
  | sk hk =>
   obtain⟨hle,hao,es,ver,lens,rows,hH,hv,hf⟩:=hk
   simp only[hH]at h
   split at h
   ·rename_i hc2
    obtain⟨hlv,he,hlt⟩:=hc2
    cases h
    obtain⟨rfl,rfl⟩:=hf (lvl_mem hlv)
    refine⟨_,run _ _ _ hc hlt,?_⟩
    rw[addr_add]
    exact .skp ⟨es,ver,lens,rows,hH,hv,fun _=>⟨rfl,by rw[he]; omega⟩⟩
   ·cases h
  | _=>cases h
 ·cases h
theorem run_idxA{t e:TypeId}{len:Nat}{ti:TypeInfo}{x y:Operand}{u v:AV}{k:IntKind}{n:Int}(ht:P.underlying t = some (.array len e))(hi:P.info? e = some ti)(hx:Rep w g H (a.eval x) u)(hy:Rep w g H (a.eval y) (.p (.v (.int k n))))(h:idxArr len ti.size u n = some v):RunV P a w g H ⟨dst,.indexAddr t x y,ty,pos,after,gd⟩ v:=by
 unfold idxArr at h
 split at h
 ·rename_i hn
  obtain⟨p,hc,hr⟩:=fadrV_rep hx h
  exact⟨_,by simp[execOp,Instr.indexAt,hc,hy.val.1,asIntOf,run_underlying ht,hn,Instr.sureAddr,sizeOf,typeInfo,hi],hr⟩
 ·cases h
theorem run_idxS{t:TypeId}{x y:Operand}{s:ByteArray}{v:AV}{k:IntKind}{n:Int}(ht:P.underlying t = some .string)(hx:Rep w g H (a.eval x) (.p (.v (.string s))))(hy:Rep w g H (a.eval y) (.p (.v (.int k n))))(h:idxStr s n = some v):RunV P a w g H ⟨dst,.index t x y,ty,pos,after,gd⟩ v:=by
 unfold idxStr at h
 split at h
 ·rename_i hn
  simp only[Option.map_eq_some_iff]at h
  obtain⟨b,hb,rfl⟩:=h
  exact⟨.int .u8 b.toNat,by simp[execOp,Instr.index,hx.val.1,hy.val.1,asIntOf,run_underlying ht,hn,hb],.v rfl⟩
 ·cases h
theorem run_isAgg{t:TypeId}{d:TypeDesc}(hu:P.underlying t = some d):(isAgg t).run P w = .ok (aggT d) w:=by
 simp only[isAgg,Sem.run_bind,run_underlying hu,Result.andThen_ok]
 cases d <;> rfl
theorem run_idxV{t e:TypeId}{len:Nat}{ti:TypeInfo}{d:TypeDesc}{x y:Operand}{u v:AV}{k:IntKind}{n:Int}(ht:P.underlying t = some (.array len e))(hi:P.info? e = some ti)(hd:P.underlying e = some d)(hx:Rep w g H (a.eval x) u)(hy:Rep w g H (a.eval y) (.p (.v (.int k n))))(h:idxAgg len (aggT d) ti.size u n = some v) :
  RunV P a w g H ⟨dst,.index t x y,ty,pos,after,gd⟩ v:=by
 generalize hc:a.eval x = c at hx
 generalize hg:aggT d = gg at h
 cases hx with
 | @agg arr aZ ha h1 hr =>
  simp only[idxAgg]at h
  split at h
  ·rename_i hn
   obtain⟨hn0,hn1,hn2⟩:=hn
   have ix:(execOp a.eval ⟨dst,.index t x y,ty,pos,after,gd⟩).run P w = ((part e arr (n.toNat * ti.size)).run P w).andThen fun r w=>.ok (.value r) w:=by
    simp[execOp,Instr.index,hc,hy.val.1,asIntOf,run_underlying ht,hn0,hn1,sizeOf,typeInfo,hi]
   have hag:=run_isAgg (w:=w) hd
   rw[hg]at hag
   cases gg with
   | true =>
    cases h
    refine⟨.agg (arr.extract (n.toNat * ti.size) (n.toNat * ti.size + ti.size)),by rw[ix]; simp[part,hag,sizeOf,typeInfo,hi],.agg ?_ (fun i c hi'=>?_) (fun i c y hi' hy'=>?_)⟩
    ·simp; omega
    ·rw[Array.getElem?_extract]at hi'
     split at hi'
     ·exact h1 _ _ hi'
     ·cases hi'
    ·rw[Array.getElem?_extract]at hi'
     rw[List.getElem?_take]at hy'
     split at hi'
     ·split at hy'
      ·rw[List.getElem?_drop]at hy'
       exact hr _ _ _ hi' hy'
      ·cases hy'
     ·cases hi'
   | false =>
    simp only[Bool.false_eq_true,if_false]at h
    split at h
    ·have hlt:n.toNat * ti.size < arr.size:=by have:=(List.getElem?_eq_some_iff.1 h).1; omega
     exact⟨arr[n.toNat * ti.size],by rw[ix]; simp[part,hag,hlt],hr _ _ _ (by simp[hlt]) h⟩
    ·cases h
  ·cases h
 | _=>simp[idxAgg]at h
theorem run_maxmin{c:Call}{x y:Operand}{mx:Bool}{u v r:Value}(hc:c.callee = .builtin (if mx then .max else .min))(ha:c.args.toList = [x,y])(hx:Rep w g H (a.eval x) (.p (.v u)))(hy:Rep w g H (a.eval y) (.p (.v v)))(h:maxmin mx u v = some r):RunV P a w g H ⟨dst,.call c,ty,pos,after,gd⟩ (.p (.v r)):=by
 have ha':c.args = #[x,y]:=by rw[← Array.toList_inj]; exact ha
 unfold maxmin at h
 split at h
 ·split at h
  ·rename_i hk
   subst hk
   cases h
   refine⟨_,?_,.v rfl⟩
   cases mx <;> simp[execOp,resolve,hc,ha',Go.invoke,Go.builtin,Builtin.max_,Builtin.min_,hx.val.1,hy.val.1,Builtin.max2,Builtin.min2]
  ·cases h
 ·cases h
end
end Go.Proofs.YtchgldaddcolhaaGreatDoor
namespace Go.Proofs.YtchgldaddcolhaaGreatDoor
open Go
variable[Sub]
section
variable{P:Program}{w:World}{g:Gh}{H:List Obj}
variable{a:Act}{dst:Option Tmp}{ty:TypeId}{pos:String}{after:Array Edge}{gd:Option (Nat×Bool)}
def BdOk(v:Option Value)(d n:Nat):Prop:=(v = none∧n = d)∨∃ k,v = some (.int k n)
theorem run_bounds{isSlice:Bool}{len cap l h m:Nat}{lo hi mx:Option Value}(hl:BdOk lo 0 l)(hh:BdOk hi len h)(hm:BdOk mx cap m)(hhm:mx.isSome = true→hi.isSome = true)(h1:l ≤ h)(h2:h ≤ m)(h3:m ≤ cap):(Instr.sliceBounds isSlice len cap lo hi mx).run P w = .ok (l,h,m) w:=by
 rcases hl with ⟨rfl,rfl⟩ | ⟨kl,rfl⟩ <;> rcases hh with ⟨rfl,rfl⟩ | ⟨kh,rfl⟩ <;> rcases hm with ⟨rfl,rfl⟩ | ⟨km,rfl⟩ <;>
  first
  | (simp at hhm; done)
  | (simp[Instr.sliceBounds,Instr.sliceBound,asIntOf,h1,h2,h3]; done)
theorem run_sliceV{t e:TypeId}{ti:TypeInfo}{x:Operand}{lo hi mx:Option Operand}{p:Option Addr}{len cap l h m:Nat}(ht:P.underlying t = some (.slice e))(hi':P.info? e = some ti)(hc:a.eval x = .slice p len cap)(hl:BdOk (lo.map a.eval) 0 l)(hh:BdOk (hi.map a.eval) len h)(hm:BdOk (mx.map a.eval) cap m)(hhm:mx.isSome = true→hi.isSome = true)(h1:l ≤ h)(h2:h ≤ m)(h3:m ≤ cap) :
  (execOp a.eval ⟨dst,.slice t x lo hi mx,ty,pos,after,gd⟩).run P w = .ok (.value (.slice (if m = l then p else p.map (·.add (l * ti.size))) (h - l) (m - l))) w:=by
 have hb:=run_bounds (P:=P) (w:=w) (isSlice:=true) hl hh hm (by simpa using hhm) h1 h2 h3
 simp[execOp,hc,Instr.sliceAt,Instr.slice,run_underlying ht,hb,sizeOf,typeInfo,hi']
theorem sliceAV_rep{p:Option Addr}{n cap es L h:Nat}{mf:Bool}{u v:AV}{H':List Obj}(hs:StRel w g H)(hx:Rep w g H (.slice p n cap) u)(hn:lenOf u = some n)(hv:sliceAV H es u L h mf = some (v,H')):L ≤ h∧h ≤ n∧n ≤ cap∧∀ m,(m = if mf then h else cap) →
   ∃ g',Evo w g H w g' H'∧StRel w g' H'∧Rep w g' H' (.slice (if m = L then p else p.map (·.add (L * es))) (h - L) (m - L)) v:=by
 have still:∀ (mf:Bool) (rows:List (List PV)),RepP w g.D (.slice p n cap) (.sl rows)→rows.length = n→n ≤ cap →
   (if L ≤ h∧h ≤ rows.length∧rows.all (fun r=>r.length == es) then some (if mf then AV.lit ((rows.drop L).take (h - L)) else .p (.sl ((rows.drop L).take (h - L))),H) else none) = some (v,H') →
   L ≤ h∧h ≤ n∧n ≤ cap∧∀ m,(m = if mf then h else cap)→∃ g',Evo w g H w g' H'∧StRel w g' H'∧Rep w g' H' (.slice (if m = L then p else p.map (·.add (L * es))) (h - L) (m - L)) v:=fun mf rows hr hl hnc hv=>by
  split at hv
  ·rename_i hcond
   obtain⟨c1,c2,c3⟩:=hcond
   cases hv
   refine⟨c1,by omega,hnc,fun m hm=>⟨g,.refl _ _ _,hs,?_⟩⟩
   cases mf with
   | true =>
    simp only[if_true]at hm ⊢
    subst hm
    exact .lit (hr.sub (all_len c3) c1 (by omega) m (by omega) (by omega) rfl)
   | false =>
    simp only[Bool.false_eq_true,if_false]at hm ⊢
    subst hm
    exact .p (hr.sub (all_len c3) c1 (by omega) m (by omega) (by omega) rfl)
  ·cases hv
 cases hx with
 | p hp =>
  cases hp with
  | v=>cases hn
  | h=>cases hn
  | nsl =>
   simp only[sliceAV]at hv
   split at hv
   ·rename_i hcond
    obtain⟨rfl,rfl⟩:=hcond
    cases hv
    refine⟨by omega,by omega,by omega,fun m hm=>⟨g,.refl _ _ _,hs,?_⟩⟩
    cases mf <;> simp at hm <;> subst hm <;> exact .p .nsl
   ·cases hv
  | nil=>exact still mf _ .nil rfl (Nat.le_refl _) hv
  | sl cs h1 h2 h3 h4 h5 h6=>exact still mf _ (.sl cs h1 h2 h3 h4 h5 h6) h1 h2 hv
 | lit hp =>
  simp only[lenOf,Option.some.injEq]at hn
  rename_i rows
  cases rows with
  | cons r0 rows=>exact still mf _ hp hn (Nat.le_refl _) hv
  | nil =>
   simp only[sliceAV]at hv
   split at hv
   ·rename_i hcond
    obtain⟨rfl,rfl⟩:=hcond
    cases hv
    have hn0:n = 0:=by simpa using hn.symm
    subst hn0
    refine⟨by omega,by omega,by omega,fun m hm=>⟨g,.refl _ _ _,hs,?_⟩⟩
    have hm0:m = 0:=by rw[hm]; split <;> rfl
    subst hm0
    simpa using .lit hp
   ·cases hv
 | @ar l v' off _ _ _ hA =>
  obtain⟨h1,h2,es',fz,ver,rows,hH,hv',hoff,hf⟩:=id hA
  simp only[sliceAV,hH]at hv
  split at hv
  ·rename_i hcond
   obtain⟨rfl,c1,c2,c3⟩:=hcond
   refine⟨c1,c2,h1,fun m hm=>?_⟩
   cases mf with
   | false =>
    simp only[Bool.false_eq_true,if_false,Option.some.injEq,Prod.mk.injEq]at hv hm
    obtain⟨rfl,rfl⟩:=hv
    subst hm
    refine⟨g,.refl _ _ _,hs,.ar ⟨by omega,?_,es',fz,ver,rows,hH,hv',by omega,fun hsn=>⟨?_,fun e1 e2=>?_,fun e1=>by have:=(hf hsn).2.2 e1; omega⟩⟩⟩
    ·rcases h2 with ⟨rfl,rfl⟩ | ⟨b,o,rfl⟩
     ·exact .inl ⟨by split <;> rfl,by omega⟩
     ·refine .inr ?_
      split
      ·exact⟨b,o,rfl⟩
      ·exact⟨b,o + L * es',by simp[addr_add]⟩
    ·obtain⟨h3,_,_⟩:=hf hsn
     cases fz with
     | none =>
      intro h0
      have:=h3 (by omega)
      subst this
      have hne:¬ m = L:=by omega
      rw[if_neg hne]
      simp only[Option.map_some,addr_add,Nat.add_mul]
      rw[Nat.add_assoc]
     | some f =>
      have h3':RepP w g.D (.slice p n m) (.sl ((rows.drop off).take n)):=h3
      obtain⟨_,hes,_⟩:=hs.objs _ _ hH
      have:=h3'.sub (l:=L) (h:=h) (cap':=m - L) (es:=es') (fun r hr=>hes r (List.mem_of_mem_drop (List.mem_of_mem_take hr))) c1 c2 m (by omega) (Nat.le_refl _) rfl
      rw[List.drop_take,List.take_take,List.drop_drop,Nat.min_eq_left (by omega)]at this
      exact this
    ·obtain⟨_,h3,_⟩:=hf hsn
     have hL:L = 0:=by omega
     have ho:off = 0:=by omega
     subst hL
     subst ho
     obtain⟨e4,e5⟩:=h3 e1 rfl
     subst e4
     refine⟨?_,by omega⟩
     split
     ·rfl
     ·simp[addr_add]
   | true =>
    simp only[if_true]at hv hm
    subst hm
    split at hv
    ·rename_i hsn
     simp only[Option.some.injEq,Prod.mk.injEq]at hv
     obtain⟨rfl,rfl⟩:=hv
     obtain⟨g',he,hs'⟩:=evo_freeze [l] hs
     refine⟨g',he,hs',?_⟩
     have hl:l < H.length:=(List.getElem?_eq_some_iff.1 hH).1
     have hr:=he.rep _ _ (.ar hA)
     cases hr with
     | ar hA' =>
      obtain⟨_,_,es2,fz2,ver2,rows2,hH2,_,_,hf2⟩:=hA'
      have hfz:∃ f,(freeze H [l])[l]? = some (.arr es' (some f) ver rows)∧seen (some f) ver v' = true:=by
       cases fz with
       | none =>
        refine⟨ver,by simp only[freeze,hH]; exact List.getElem?_set_self hl,?_⟩
        simp only[seen,beq_iff_eq]at hsn
        simp[seen,hsn]
       | some f=>exact⟨f,by simp[freeze,hH],hsn⟩
      obtain⟨f,e1,e2⟩:=hfz
      rw[e1]at hH2
      cases hH2
      obtain⟨h3,_⟩:=hf2 e2
      have h3':RepP w g'.D (.slice p n cap) (.sl ((rows.drop off).take n)):=h3
      obtain⟨_,hes,_⟩:=hs.objs _ _ hH
      have:=h3'.sub (l:=L) (h:=m) (cap':=m - L) (es:=es') (fun r hr=>hes r (List.mem_of_mem_drop (List.mem_of_mem_take hr))) c1 c2 m (by omega) (by omega) rfl
      rw[List.drop_take,List.take_take,List.drop_drop,Nat.min_eq_left (by omega)]at this
      exact .lit this
    ·cases hv
  ·cases hv
 | emp=>simp[sliceAV]at hv
 | csl=>simp[sliceAV]at hv
 | nk=>simp[sliceAV]at hv
 | sk hk =>
  obtain⟨h1,h2,es',ver,lens,rows,hH,_⟩:=hk
  simp only[sliceAV,hH]at hv
  split at hv
  ·rename_i hc
   obtain⟨_,rfl,rfl,rfl⟩:=hc
   cases hv
   refine⟨Nat.le_refl _,Nat.zero_le _,h1,fun m hm=>⟨g,.refl _ _ _,hs,?_⟩⟩
   have hm0:m = 0:=by simpa using hm
   subst hm0
   rw[if_pos rfl]
   refine .lit ?_
   rcases h2 with ⟨rfl,_⟩ | ⟨b,o,rfl⟩
   ·exact .nil
   ·exact RepP.of_rows (es:=0) rfl (Nat.le_refl _) (by simp) (by simp)
  ·cases hv
 | _=>cases hn
def BdA(a:Act)(x:Option Operand)(d n:Int):Prop:=(x = none∧n = d)∨∃ y k,x = some y∧a.eval y = .int k n
theorem BdA.ok{x:Option Operand}{d:Nat}{n:Int}(h:BdA a x d n)(h0:0 ≤ n):BdOk (x.map a.eval) d n.toNat:=by
 rcases h with ⟨rfl,rfl⟩ | ⟨y,k,rfl,h⟩
 ·exact .inl ⟨rfl,by omega⟩
 ·exact .inr ⟨k,by simp[h,Int.toNat_of_nonneg h0]⟩
theorem sim_slice{t e:TypeId}{ti:TypeInfo}{x:Operand}{lo hi mx:Option Operand}{u v:AV}{l h:Int}{m:Option Int}{n:Nat}{H':List Obj}(hs:StRel w g H)(ht:P.underlying t = some (.slice e))(hi':P.info? e = some ti)(hx:Rep w g H (a.eval x) u)(hn:lenOf u = some n)(hl:BdA a lo 0 l)(hh:BdA a hi n h)(hm:(mx = none∧m = none)∨∃ y k m',mx = some y∧m = some m'∧a.eval y = .int k m')(hhm:mx.isSome = true→hi.isSome = true)(hv:sliceB H ti.size u l h m = some (v,H')):OpSim P a w g H ⟨dst,.slice t x lo hi mx,ty,pos,after,gd⟩ v H':=by
 unfold sliceB at hv
 split at hv
 ·rename_i h0
  obtain⟨hl0,hh0⟩:=h0
  obtain⟨p,cap,hc,hncap⟩:=len_rep hx hn
  rw[hc]at hx
  have hL:=hl.ok hl0
  have hH:=hh.ok hh0
  rcases hm with ⟨rfl,rfl⟩ | ⟨y,k,m',rfl,rfl,hy⟩
  ·simp only at hv
   obtain⟨c1,c2,c3,hrep⟩:=sliceAV_rep hs hx hn hv
   obtain⟨g',e1,e2,e3⟩:=hrep cap rfl
   exact⟨_,w,g',.inl (run_sliceV ht hi' hc hL hH (.inl ⟨rfl,rfl⟩) hhm c1 (by omega) (Nat.le_refl _)),e1,e2,.inr e3⟩
  ·simp only at hv
   split at hv
   ·rename_i hmh
    subst hmh
    obtain⟨c1,c2,c3,hrep⟩:=sliceAV_rep hs hx hn hv
    obtain⟨g',e1,e2,e3⟩:=hrep _ rfl
    simp only[if_true]at e3
    exact⟨_,w,g',.inl (run_sliceV ht hi' hc hL hH (.inr ⟨k,by simp[hy,Int.toNat_of_nonneg hh0]⟩) hhm c1 (Nat.le_refl _) (by omega)),e1,e2,.inr e3⟩
   ·cases hv
 ·cases hv
theorem run_sliceS{t:TypeId}{x:Operand}{lo hi:Option Operand}{s:ByteArray}{l h:Int}(ht:P.underlying t = some .string)(hx:Rep w g H (a.eval x) (.p (.v (.string s))))(hl:BdA a lo 0 l)(hh:BdA a hi s.size h)(h0:0 ≤ l)(h1:l ≤ h)(h2:h ≤ s.size):RunV P a w g H ⟨dst,.slice t x lo hi none,ty,pos,after,gd⟩ (.p (.v (.string (s.extract l.toNat h.toNat)))):=by
 have hb:=run_bounds (P:=P) (w:=w) (isSlice:=false) (len:=s.size) (cap:=s.size) (hl.ok h0) (hh.ok (by omega)) (.inl ⟨rfl,rfl⟩) (by simp) (by omega) (by omega) (Nat.le_refl _)
 exact⟨_,by simp[execOp,hx.val.1,Instr.sliceAt,Instr.slice,run_underlying ht,hb],.v rfl⟩
theorem rows_rep{es:Nat}{c:Value}{v:AV}{ys:List (List PV)}(hs:StRel w g H)(h:Rep w g H c v)(hy:rowsOf H v = some ys)(hes:∀ r ∈ ys,r.length = es) :
  ∃ p cap,c = .slice p ys.length cap∧ys.length ≤ cap∧(0 < ys.length→∃ b o,p = some ⟨b,o,none⟩ ∧
   ∀ (i j:Nat) (row:List PV) (x:PV),ys[i]? = some row→row[j]? = some x→∃ u,cellAt w b (o + i * es + j) = some u∧RepP w g.D u x):=by
 have still:∀ {p:Option Addr} {n cap:Nat} {rows:List (List PV)},RepP w g.D (.slice p n cap) (.sl rows)→(∀ r ∈ rows,r.length = es) →
   ∃ p' cap',Value.slice p n cap = .slice p' rows.length cap'∧rows.length ≤ cap'∧(0 < rows.length→∃ b o,p' = some ⟨b,o,none⟩ ∧
    ∀ (i j:Nat) (row:List PV) (x:PV),rows[i]? = some row→row[j]? = some x→∃ u,cellAt w b (o + i * es + j) = some u∧RepP w g.D u x):=fun {p n cap rows} hr hl=>by
  obtain⟨h1,h2,h3,h4⟩:=hr.rows hl
  refine⟨p,cap,by rw[h1],by omega,fun h0=>?_⟩
  obtain⟨b,o,e,h5⟩:=h4 (by omega)
  exact⟨b,o,e,fun i j row x a b=>(h5 i j row x a b).2⟩
 cases h with
 | p hp =>
  cases hp with
  | v=>cases hy
  | h=>cases hy
  | nsl=>cases hy; exact⟨none,0,rfl,Nat.le_refl _,fun h=>by simp at h⟩
  | nil=>cases hy; exact⟨none,0,rfl,Nat.le_refl _,fun h=>by simp at h⟩
  | sl cs h1 h2 h3 h4 h5 h6=>cases hy; exact still (.sl cs h1 h2 h3 h4 h5 h6) hes
 | lit hp=>cases hy; exact still hp hes
 | @ar l v' off n p cap hA =>
  obtain⟨h1,h2,es',fz,ver,rows,hH,hv',hoff,hf⟩:=hA
  simp only[rowsOf,hH]at hy
  split at hy
  ·rename_i hcond
   obtain⟨hsn,hle⟩:=hcond
   cases hy
   obtain⟨h3,_⟩:=hf hsn
   have hlen:((rows.drop off).take n).length = n:=by simp; omega
   cases fz with
   | some f =>
    have:=still (rows:=(rows.drop off).take n) (p:=p) (n:=n) (cap:=cap) h3 hes
    exact this
   | none =>
    refine⟨p,cap,by rw[hlen],by omega,fun h0=>?_⟩
    have hp:=h3 (by omega)
    obtain⟨_,hes',_,h5,_⟩:=hs.objs _ _ hH
    refine⟨_,_,hp,fun i j row x hi hj=>?_⟩
    have hi':rows[off + i]? = some row:=by
     rw[List.getElem?_take]at hi
     split at hi
     ·rwa [List.getElem?_drop]at hi
     ·cases hi
    have he:es' = es:=by rw[← hes row (List.mem_of_getElem? hi),hes' row (List.mem_of_getElem? hi')]
    subst he
    obtain⟨u,e1,e2⟩:=h5 (off + i) j row x hi' hj
    exact⟨u,by rw[← e1,Nat.add_mul]; congr 1; omega,e2⟩
  ·cases hy
 | emp=>cases hy; exact⟨_,_,rfl,Nat.zero_le _,fun h=>by simp at h⟩
 | nk=>cases hy; exact⟨_,_,rfl,Nat.zero_le _,fun h=>by simp at h⟩
 | @sk l v n cap p hk =>
  obtain⟨h1,h2,es',ver,lens,rows,hH,hv,hf⟩:=hk
  simp only[rowsOf,hH]at hy
  split at hy
  ·rename_i hl
   have hm:=lvl_mem hl
   obtain⟨rfl,rfl⟩:=hf hm
   obtain⟨_,hes',h3⟩:=hs.objs _ _ hH
   obtain⟨_,hnr,_,_,_,a7⟩:=h3 _ _ hm
   have he:=plainR_eq hy
   have hlen:ys.length = n:=by
    have:=congrArg List.length he
    simp at this
    omega
   refine⟨_,_,by rw[hlen],by omega,fun _=>⟨_,_,rfl,fun i j row x hi hj=>?_⟩⟩
   have hil:i < n:=by have:=(List.getElem?_eq_some_iff.1 hi).1; omega
   have hr:rows[i]? = some (row.map .p):=by
    have:(rows.take n)[i]? = some (row.map .p):=by rw[he,List.getElem?_map,hi]; rfl
    rwa [List.getElem?_take,if_pos hil]at this
   have hees:es' = es:=by
    rw[← hes row (List.mem_of_getElem? hi),← hes' _ (List.mem_of_getElem? hr),List.length_map]
   obtain⟨c,c1,c2,_⟩:=a7 i j _ (.p x) hil hr (by rw[List.getElem?_map,hj]; rfl)
   cases c2 with
   | p hp=>exact⟨c,by rw[Nat.zero_add,← hees]; exact c1,hp⟩
  ·cases hy
 | _=>cases hy
end
end Go.Proofs.YtchgldaddcolhaaGreatDoor
namespace Go.Proofs.YtchgldaddcolhaaGreatDoor
open Go
variable[Sub]
section
variable{P:Program}{w:World}{g:Gh}{H:List Obj}
variable{a:Act}{dst:Option Tmp}{ty:TypeId}{pos:String}{after:Array Edge}{gd:Option (Nat×Bool)}
theorem bytesOf_ints:∀ {rows:List (List PV)} {l:List UInt8},bytesOf rows = some l→∃ xs:List Int,rows = xs.map (fun n=>[.v (.int .u8 n)])∧l = xs.map fun n=>UInt8.ofNat n.toNat
 | [],l,h=>by cases h; exact⟨[],rfl,rfl⟩
 | r::rs,l,h=>by
  unfold bytesOf at h
  split at h
  ·rename_i he; cases he
  ·rename_i n r' he
   cases he
   simp only[Option.map_eq_some_iff]at h
   obtain⟨l',hl,rfl⟩:=h
   obtain⟨xs,rfl,rfl⟩:=bytesOf_ints hl
   exact⟨n::xs,rfl,rfl⟩
  ·cases h
theorem run_b2s{s d e:TypeId}{x:Operand}{u:AV}{rows:List (List PV)}{l:List UInt8}(h0:StRel w g H)(hs:P.underlying s = some (.slice e))(he:P.underlying e = some (.int .u8))(hd:P.underlying d = some .string)(hx:Rep w g H (a.eval x) u)(hr:rowsOf H u = some rows)(hb:bytesOf rows = some l):RunV P a w g H ⟨dst,.convert s d x,ty,pos,after,gd⟩ (.p (.v (.string ⟨l.toArray⟩))):=by
 obtain⟨xs,rfl,rfl⟩:=bytesOf_ints hb
 obtain⟨p,cap,hc,hcap,hcell⟩:=rows_rep (es:=1) h0 hx hr (fun r hr=>by simp at hr; obtain⟨n,_,rfl⟩:=hr; rfl)
 refine⟨_,?_,.v rfl⟩
 simp only[List.length_map]at hc hcell
 cases p with
 | none =>
  have h0:xs = []:=by
   cases xs with
   | nil=>rfl
   | cons y ys=>obtain⟨b,o,e,_⟩:=hcell (by simp); cases e
  subst h0
  have:=run_convert_bytes_nil (P:=P) w s e hs he 0 cap d hd
  simp[execOp,hc,this]
  rfl
 | some ad =>
  cases xs with
  | nil =>
   have hrun:(Go.convert s d (.slice (some ad) 0 cap)).run P w = .ok (.string ByteArray.empty) w:=by
    rw[run_convert_bytes_string w s d e (some ad) 0 cap hs he hd]
    simp[Conv.bytesToString,loadCells,loadCellsFrom]
   simp at hc
   simp[execOp,hc,hrun]
   rfl
  | cons y ys =>
   obtain⟨b,o,e1,hcell2⟩:=hcell (by simp)
   cases e1
   have:=run_convert_bytes_arg (P:=P) w s e hs he b o (y::ys).length cap (y::ys) rfl (fun i hi=>by
    obtain⟨c,h1,h2⟩:=hcell2 i 0 [.v (.int .u8 ((y::ys)[i]))] (.v (.int .u8 ((y::ys)[i]))) (by rw[List.getElem?_map,List.getElem?_eq_getElem hi]; rfl) rfl
    simp only[Nat.mul_one,Nat.add_zero]at h1
    rw[h2.int]at h1
    have h3:w.cell? ⟨b,o + i,none⟩ = some (Value.int .u8 (y::ys)[i]):=h1
    rw[h3,List.getD_eq_getElem?_getD,List.getElem?_eq_getElem hi]; rfl) d hd
   simp only[List.length_cons]at this
   simp[execOp,hc,this,strOfNums]
theorem byteArray_beq{a b:ByteArray}(h:(a == b) = true):a = b:=by
 have h':ByteArray.beq a b = true:=h
 unfold ByteArray.beq at h'
 cases a; cases b
 simp at h'
 simp[h']
theorem byteArray_beq_self(a:ByteArray):(a == a) = true:=by
 show ByteArray.beq a a = true
 unfold ByteArray.beq
 cases a
 simp
theorem sim_newCells{o:Oper}{w':World}{vs:Array Value}{e:TypeId}{cs:List AV}(hs:StRel w g H)(hr:(execOp a.eval o).run P w = .ok (.value (.pointer (some ⟨w.heap.size,0,none⟩))) w')(hp:Pushed w w' (.cells vs e (0,0)))(hsz:vs.size = cs.length)(hcs:∀ (i:Nat) (c:Value) (x:AV),vs[i]? = some c→cs[i]? = some x→Rep w g H c x∧c.oneCell' = true) :
  OpSim P a w g H o (.ptr H.length 0) (H++[.cells cs]):=by
 obtain⟨e1,e2⟩:=evo_new (cap:=0) (o:=.cells cs) hp hs (fun _ _ _ _ h=>by cases h) (fun hr=>⟨vs,e,by rw[Gh.add_eq.1]; exact hp.new,hsz,fun i v x hv hx=>⟨hr _ _ (hcs i v x hv hx).1,(hcs i v x hv hx).2⟩⟩)
 refine⟨_,w',_,.inl hr,e1,e2,.inr ?_⟩
 have:Rep w' (g.add H.length w.heap.size 0 0) (H++[.cells cs]) (.pointer (some ⟨(g.add H.length w.heap.size 0 0).blk H.length,0,none⟩)) (.ptr H.length 0):=.ptr (c:=cs) (by simp)
 rwa [Gh.add_eq.1]at this
theorem mapM_some{α β:Type}{f:α→Option β}:∀ {l:List α} {r:List β},l.mapM f = some r→l.length = r.length∧∀ (i:Nat) (x:α) (y:β),l[i]? = some x→r[i]? = some y→f x = some y
 | [],r,h=>by simp at h; subst h; exact⟨rfl,fun i x y h=>by simp at h⟩
 | x::l,r,h=>by
  simp only[List.mapM_cons,Option.bind_eq_bind,Option.bind_eq_some_iff,Option.pure_def,Option.some.injEq]at h
  obtain⟨y,hy,r',hr,rfl⟩:=h
  obtain⟨h1,h2⟩:=mapM_some hr
  refine⟨by simp[h1],fun i u v hu hv=>?_⟩
  cases i with
  | zero=>simp at hu hv; subst hu; subst hv; exact hy
  | succ i=>simp at hu hv; exact h2 i u v hu hv
theorem cvt_one{keep:Bool}{v:Value}{x:AV}(h:cvt keep v = some x):v.oneCell' = true:=by
 unfold cvt at h
 split at h <;> first | rfl | (cases h; done) | skip
 cases v <;> first | rfl | simp_all
theorem cvtP_rep{D:Nat→Nat→Prop}{keep:Bool}{v:Value}{x:PV}(h:cvtP keep v = some x):RepP w D v x:=by
 unfold cvtP at h
 split at h
 ·cases h
  cases keep
  ·exact .nil
  ·exact .nsl
 all_goals first | (cases h; done) | skip
 cases h
 refine .v ?_
 cases v <;> first | rfl | skip
 case chan r _ _ _ _ _ _ _ _ _=>cases r <;> simp_all [Scalar]
 all_goals simp_all
theorem zeroT_rep{kn:TypeId→Bool}{t:TypeId}{zero:List AV}(h:zeroT P kn t = some zero):∃ i z,P.info? t = some i∧i.zero = some z∧z.cells.size = zero.length ∧
  ∀ (j:Nat) (c:Value) (x:AV),z.cells[j]? = some c→zero[j]? = some x→Rep w g H c x∧c.oneCell' = true:=by
 unfold zeroT at h
 simp only[Option.bind_eq_some_iff]at h
 obtain⟨z,⟨i,hi,hz⟩,hm⟩:=h
 obtain⟨h1,h2⟩:=mapM_some hm
 exact⟨i,z,hi,hz,by simpa using h1,fun j c x hc hx=>⟨cvt_rep (h2 j c x (by simpa using hc) hx),cvt_one (h2 j c x (by simpa using hc) hx)⟩⟩
theorem zeroP_rep{kn:TypeId→Bool}{t:TypeId}{zero:List PV}(h:zeroP P kn t = some zero):∃ i z,P.info? t = some i∧i.zero = some z∧z.cells.size = zero.length ∧
  ∀ (D:Nat→Nat→Prop) (j:Nat) (c:Value) (x:PV),z.cells[j]? = some c→zero[j]? = some x→RepP w D c x:=by
 unfold zeroP at h
 simp only[Option.bind_eq_some_iff]at h
 obtain⟨z,⟨i,hi,hz⟩,hm⟩:=h
 obtain⟨h1,h2⟩:=mapM_some hm
 exact⟨i,z,hi,hz,by simpa using h1,fun D j c x hc hx=>cvtP_rep (h2 j c x (by simpa using hc) hx)⟩
theorem sim_alloc{kn:TypeId→Bool}{t:TypeId}{zero:List AV}(hs:StRel w g H)(h:zeroT P kn t = some zero):OpSim P a w g H ⟨dst,.alloc t,ty,pos,after,gd⟩ (.ptr H.length 0) (H++[.cells zero]):=by
 obtain⟨i,z,hi,hz,hl,hr⟩:=zeroT_rep (w:=w) (g:=g) (H:=H) h
 exact sim_newCells (w':={ w with heap:=w.heap.push (.cells z.cells t) }) (vs:=z.cells) (e:=t) hs (by simp[execOp,Instr.alloc,zeroValue,typeInfo,hi,hz,newVar,newRow]) ⟨rfl,rfl,rfl,⟨rfl,by first | exact Nat.le_refl _ | exact Nat.le_succ _⟩⟩ hl hr
theorem sim_box{t:TypeId}{x:Operand}{u:AV}{cs:List AV}(hs:StRel w g H)(hx:Rep w g H (a.eval x) u)(hc:cellsOf u = some cs) :
  OpSim P a w g H ⟨dst,.box t x,ty,pos,after,gd⟩ (.ptr H.length 0) (H++[.cells cs]):=by
 obtain⟨h1,h2⟩:=cellsOf_rep hx hc
 exact sim_newCells (w':={ w with heap:=w.heap.push (.cells (a.eval x).cells t) }) (vs:=(a.eval x).cells) (e:=t) hs (by simp[execOp,Instr.box,newVar,newRow]) ⟨rfl,rfl,rfl,⟨rfl,by first | exact Nat.le_refl _ | exact Nat.le_succ _⟩⟩ h1 h2
theorem sim_mkmap{t:TypeId}(hs:StRel w g H):OpSim P a w g H ⟨dst,.makeMap t none,ty,pos,after,gd⟩ (.map H.length) (H++[.map []]):=by
 have hp:Pushed w { w with heap:=w.heap.push (.map #[] 0) } (.map #[] 0):=⟨rfl,rfl,rfl,⟨rfl,Nat.le_refl _⟩⟩
 obtain⟨e1,e2⟩:=evo_new (cap:=0) (o:=.map []) hp hs (fun _ _ _ _ h=>by cases h) (fun _=>⟨#[],0,⟨by rw[Gh.add_eq.1]; exact hp.new,by simp,by simp⟩,rfl,fun i e p h=>by simp at h⟩)
 refine⟨.map (some w.heap.size),_,_,.inl (by simp[execOp,Instr.makeMap]),e1,e2,.inr ?_⟩
 have:Rep { w with heap:=w.heap.push (.map #[] 0) } (g.add H.length w.heap.size 0 0) (H++[.map []]) (.map (some ((g.add H.length w.heap.size 0 0).blk H.length))) (.map H.length):=.map (es:=[]) (by simp)
 rwa [Gh.add_eq.1]at this
theorem sim_newArr{o:Oper}{w':World}{vs:Array Value}{e:TypeId}{es cap:Nat}{rows:List (List PV)}(hs:StRel w g H)(hr:(execOp a.eval o).run P w = .ok (.value (.slice (some ⟨w.heap.size,0,none⟩) rows.length cap)) w')(hp:Pushed w w' (.cells vs e (0,0)))(hcap:rows.length ≤ cap)(hes:∀ r ∈ rows,r.length = es)(hsz:cap * es ≤ vs.size)(hcs:∀ (i j:Nat) (row:List PV) (x:PV),rows[i]? = some row→row[j]? = some x→∃ c,vs[i * es + j]? = some c∧RepP w g.D c x) :
  OpSim P a w g H o (.ar H.length 0 0 rows.length) (H++[.arr es none 0 rows]):=by
 have hcell:∀ b i,g.D b i→cellAt w' b i = cellAt w b i:=fun b i hd=>cellAt_heap (hp.old (hs.dom b i hd)) i
 obtain⟨e1,e2⟩:=evo_new (cap:=cap) (o:=.arr es none 0 rows) hp hs (fun _ _ _ _ h=>by cases h) (fun _=>⟨by rw[Gh.add_eq.2.2]; exact hcap,hes,⟨vs,e,by rw[Gh.add_eq.1]; exact hp.new,by rw[Gh.add_eq.2.1,Gh.add_eq.2.2]; omega⟩,
  fun i j row x hi hj=>by
   obtain⟨c,h1,h2⟩:=hcs i j row x hi hj
   exact⟨c,by rw[Gh.add_eq.1,Gh.add_eq.2.1,cellAt_cells hp.new,Nat.zero_add]; exact h1,h2.mono (fun _ _ h=>h) hcell⟩,fun i j h=>by cases h⟩)
 refine⟨_,w',_,.inl hr,e1,e2,.inr (.ar ⟨hcap,.inr ⟨_,_,rfl⟩,es,none,0,rows,by simp,Nat.le_refl _,by omega,fun _=>⟨fun _=>?_,fun _ _=>?_,fun _=>by omega⟩⟩)⟩
 ·rw[Gh.add_eq.1,Gh.add_eq.2.1]; simp
 ·rw[Gh.add_eq.1,Gh.add_eq.2.1,Gh.add_eq.2.2]; exact⟨rfl,rfl⟩
theorem madeCells_get{z:Array Value}{n size i j:Nat}(hz:z.size = size)(hi:i < n)(hj:j < size):(madeCells z (n * size))[i * size + j]? = z[j]?:=by
 have h1:i * size + j < n * size:=by
  have:=Nat.mul_le_mul_right size (show i + 1 ≤ n by omega)
  rw[Nat.add_mul,Nat.one_mul]at this; omega
 have h2:(i * size + j) % size = j:=by rw[Nat.mul_comm,Nat.mul_add_mod,Nat.mod_eq_of_lt hj]
 have h3:j < z.size:=by omega
 simp[madeCells,h1,hz,h2]
 rw[getElem!_pos z j h3,Array.getElem?_eq_getElem h3]
theorem sim_mkslice{kn:TypeId→Bool}{t e:TypeId}{ti:TypeInfo}{x y:Operand}{zero:List PV}{j k:IntKind}{n m:Int}{v:AV}{H':List Obj}(hs:StRel w g H)(ht:P.underlying t = some (.slice e))(hi:P.info? e = some ti)(hz:zeroP P kn e = some zero)(hl:zero.length = ti.size)(hx:Rep w g H (a.eval x) (.p (.v (.int j n))))(hy:Rep w g H (a.eval y) (.p (.v (.int k m))))(h:mkSlice H ti.bytes zero n m = some (v,H')) :
  OpSim P a w g H ⟨dst,.makeSlice t x y,ty,pos,after,gd⟩ v H':=by
 unfold mkSlice at h
 split at h
 ·rename_i hc
  obtain⟨c1,c2,c3,c4⟩:=hc
  cases h
  obtain⟨i,z,hi',hz',hzl,hzr⟩:=zeroP_rep (w:=w) hz
  rw[hi]at hi'
  cases hi'
  have hr:=run_make (P:=P) w t e ti z ht hi hz' j k n m c1 c2 c3 c4
  have hlen:(List.replicate n.toNat zero).length = n.toNat:=by simp
  have:=sim_newArr (P:=P) (a:=a) (o:=⟨dst,.makeSlice t x y,ty,pos,after,gd⟩) (rows:=List.replicate n.toNat zero) (es:=zero.length) (cap:=m.toNat) (w':=w.alloc (.cells (madeCells z.cells (m.toNat * ti.size)) e)) hs
   (by rw[hlen]; simp[execOp,hx.val.1,hy.val.1,hr]) ⟨rfl,rfl,rfl,⟨rfl,by first | exact Nat.le_refl _ | exact Nat.le_succ _⟩⟩ (by rw[hlen]; omega) (fun r hr=>by simp at hr; rw[hr.2]) (by rw[size_madeCells,hl]; exact Nat.le_refl _) (fun i j row x hrow hx'=>by
    rw[List.getElem?_replicate]at hrow
    split at hrow
    ·rename_i hin
     cases hrow
     have hj:j < zero.length:=(List.getElem?_eq_some_iff.1 hx').1
     have hjz:j < z.cells.size:=by omega
     refine⟨z.cells[j],?_,hzr _ j _ _ (by simp[hjz]) hx'⟩
     rw[hl,madeCells_get (by omega) (by omega) (by omega)]
     simp[hjz]
    ·cases hrow)
  rwa [hlen]at this
 ·cases h
end
end Go.Proofs.YtchgldaddcolhaaGreatDoor
namespace Go.Proofs.YtchgldaddcolhaaGreatDoor
open Go
variable[Sub]
theorem splice_eq{α:Type}:∀ {cs:List α} {n:Nat} {xs cs':List α},splice cs n xs = some cs'→n + xs.length ≤ cs.length∧cs' = cs.take n++xs++cs.drop (n + xs.length)
 | c::cs,n + 1,xs,cs',h=>by
  simp only[splice,Option.map_eq_some_iff]at h
  obtain⟨r,hr,rfl⟩:=h
  obtain⟨h1,rfl⟩:=splice_eq hr
  refine⟨by simp; omega,?_⟩
  rw[Nat.add_right_comm]
  simp
 | [],0,[],cs',h=>by simp only[splice,Option.some.injEq]at h; subst h; simp
 | c::cs,0,[],cs',h=>by simp only[splice,Option.some.injEq]at h; subst h; simp
 | c::cs,0,x::xs,cs',h=>by
  simp only[splice,Option.map_eq_some_iff]at h
  obtain⟨r,hr,rfl⟩:=h
  obtain⟨h1,rfl⟩:=splice_eq hr
  refine⟨by simp at h1 ⊢; omega,?_⟩
  simp
 | [],n + 1,xs,cs',h=>by simp[splice]at h
 | [],0,x::xs,cs',h=>by simp[splice]at h
theorem seg_get{α:Type}{cs xs:List α}{n:Nat}(h:n + xs.length ≤ cs.length)(i:Nat) :
  (cs.take n++xs++cs.drop (n + xs.length))[i]? = if n ≤ i∧i < n + xs.length then xs[i - n]? else cs[i]?:=by
 have hl:(cs.take n).length = n:=by simp; omega
 rw[List.append_assoc,List.getElem?_append,hl]
 by_cases h1:i < n
 ·rw[if_pos h1,if_neg (by omega),List.getElem?_take,if_pos h1]
 ·rw[if_neg h1,List.getElem?_append]
  by_cases h2:i < n + xs.length
  ·rw[if_pos (by omega),if_pos ⟨by omega,h2⟩]
  ·rw[if_neg (by omega),if_neg (by omega),List.getElem?_drop]
   congr 1
   omega
theorem splice_len{α:Type}{cs xs cs':List α}{n:Nat}(h:splice cs n xs = some cs'):cs'.length = cs.length:=by
 obtain⟨h1,rfl⟩:=splice_eq h
 simp; omega
theorem splice_get{α:Type}{cs xs cs':List α}{n:Nat}(h:splice cs n xs = some cs')(i:Nat):cs'[i]? = if n ≤ i∧i < n + xs.length then xs[i - n]? else cs[i]?:=by
 obtain⟨h1,rfl⟩:=splice_eq h
 exact seg_get h1 i
theorem fold_list(off:Nat):∀ (xs:List Value) (k:Nat) (cs:Array Value),off + k + xs.length ≤ cs.size →
  ((xs.zipIdx k).foldl (fun cs (c,j)=>cs.setIfInBounds (off + j) c) cs).size = cs.size ∧
  ∀ i,((xs.zipIdx k).foldl (fun cs (c,j)=>cs.setIfInBounds (off + j) c) cs)[i]? = if off + k ≤ i∧i < off + k + xs.length then xs[i - (off + k)]? else cs[i]?
 | [],k,cs,h=>⟨rfl,fun i=>by
   rw[if_neg (by simp)]; rfl⟩
 | x::xs,k,cs,h=>by
  simp only[List.length_cons]at h
  obtain⟨h1,h2⟩:=fold_list off xs (k + 1) (cs.setIfInBounds (off + k) x) (by simp; omega)
  simp only[List.zipIdx_cons,List.foldl_cons]
  refine⟨h1.trans (by simp),fun i=>?_⟩
  rw[h2 i]
  simp only[List.length_cons]
  by_cases c1:off + (k + 1) ≤ i∧i < off + (k + 1) + xs.length
  ·rw[if_pos c1,if_pos (by omega),show i - (off + k) = (i - (off + (k + 1))) + 1 by omega,List.getElem?_cons_succ]
  ·rw[if_neg c1,Array.getElem?_setIfInBounds]
   by_cases c2:off + k = i
   ·rw[if_pos c2,if_pos (by omega),if_pos (by omega),show i - (off + k) = 0 by omega]; rfl
   ·rw[if_neg c2,if_neg (by omega)]
theorem fold_get(off:Nat)(xs cs:Array Value)(h:off + xs.size ≤ cs.size) :
  (xs.zipIdx.foldl (fun cs (c,j)=>cs.setIfInBounds (off + j) c) cs).size = cs.size ∧
  ∀ i,(xs.zipIdx.foldl (fun cs (c,j)=>cs.setIfInBounds (off + j) c) cs)[i]? = if off ≤ i∧i < off + xs.size then xs[i - off]? else cs[i]?:=by
 have:=fold_list off xs.toList 0 cs (by simpa using h)
 rw[← Array.foldl_toList,Array.toList_zipIdx]
 simpa using this
section
variable{P:Program}{w:World}{g:Gh}{H:List Obj}
variable{a:Act}{dst:Option Tmp}{ty:TypeId}{pos:String}{after:Array Edge}{gd:Option (Nat×Bool)}
def CellsRep(w:World)(g:Gh)(H:List Obj)(A:Array Value)(cs:List AV):Prop :=
 A.size = cs.length∧∀ (i:Nat) (c:Value) (x:AV),A[i]? = some c→cs[i]? = some x→Rep w g H c x∧c.oneCell' = true
theorem fill_rep{kn:TypeId→Bool}{e:Fr}(he:EnvRel w g H a.tmps e){own:List Nat}{place:Nat→Option (Nat×TypeId)}{mplace:Nat→Option (Nat×Nat)}(hp:∀ i off t n,place i = some (off,t)→sizeT P t = some n→mplace i = some (off,n)):∀ {ps:List (Nat×Operand)} {sps:List (Nat×Nat×SA)} {A:Array Value} {zero cs:List AV},
  compFields P kn own place ps = some sps→fill e zero sps = some cs→CellsRep w g H A zero →
  ∃ A',Instr.fill mplace A (ps.map fun p=>(p.1,a.eval p.2)) = some A'∧CellsRep w g H A' cs
 | [],sps,A,zero,cs,h1,h2,hA=>by
  simp only[compFields,Option.some.injEq]at h1
  subst h1
  simp only[fill,Option.some.injEq]at h2
  subst h2
  exact⟨A,rfl,hA⟩
 | (i,x)::ps,sps,A,zero,cs,h1,h2,hA=>by
  simp only[compFields,Option.bind_eq_some_iff,Option.map_eq_some_iff]at h1
  obtain⟨⟨off,t⟩,hpl,n,hn,sa,hsa,sps',hsps,rfl⟩:=h1
  simp only[fill,Option.bind_eq_some_iff]at h2
  obtain⟨v,hv,xs,hxs,h2⟩:=h2
  split at h2
  ·rename_i hlen
   simp only[Option.bind_eq_some_iff]at h2
   obtain⟨z',hz',h2⟩:=h2
   obtain⟨hA1,hA2⟩:=hA
   obtain⟨hc1,hc2⟩:=cellsOf_rep (arg_rep he hsa hv) hxs
   obtain⟨hb,_⟩:=splice_eq hz'
   have hfit:off + (a.eval x).cells.size ≤ A.size:=by omega
   obtain⟨hf1,hf2⟩:=fold_get off (a.eval x).cells A hfit
   obtain⟨A',hA',hrep⟩:=fill_rep he hp (A:=(a.eval x).cells.zipIdx.foldl (fun cs (c,j)=>cs.setIfInBounds (off + j) c) A) hsps h2 ⟨by rw[hf1,splice_len hz']; exact hA1,fun j c y hc hy=>by
    rw[hf2]at hc
    rw[splice_get hz']at hy
    by_cases hj:off ≤ j∧j < off + xs.length
    ·rw[if_pos (by omega)]at hc
     rw[if_pos hj]at hy
     exact hc2 _ _ _ hc hy
    ·rw[if_neg (by omega)]at hc
     rw[if_neg hj]at hy
     exact hA2 _ _ _ hc hy⟩
   refine⟨A',?_,hrep⟩
   have hm:=hp i off t n hpl hn
   have h1':¬ (a.eval x).cells.size ≠ n:=by omega
   have h2':¬ (off + (a.eval x).cells.size > A.size):=by omega
   simp only[List.map_cons,Instr.fill,hm]
   rw[if_neg (by simp; omega)]
   exact hA'
  ·cases h2
theorem run_build'{t:TypeId}{ps:Array (Nat×Operand)}{cells:Array Value}{cs:List AV}(h:P.built t (ps.toList.map fun p=>(p.1,a.eval p.2)) = some cells)(hr:CellsRep w g H cells cs) :
  RunV P a w g H ⟨dst,.build t ps,ty,pos,after,gd⟩ (.agg cs):=by
 have:=run_build (P:=P) w t (ps.map fun p=>(p.1,a.eval p.2)) cells (by simpa using h)
 exact⟨.agg cells,by simp[execOp,this],.agg hr.1 (fun i c hc=>by
  have hi:i < cs.length:=by have:=(Array.getElem?_eq_some_iff.1 hc).1; rw[← hr.1]; exact this
  exact (hr.2 i c cs[i] hc (by simp[hi])).2) (fun i c x hc hx=>(hr.2 i c x hc hx).1)⟩
theorem freeze_get:∀ (ls:List Nat) {H:List Obj} {l es ver:Nat} {fz:Option Nat} {rows:List (List PV)},H[l]? = some (.arr es fz ver rows) →
  ∃ fz',(freeze H ls)[l]? = some (.arr es fz' ver rows)∧((l ∈ ls∨fz.isSome = true)→fz'.isSome = true)∧(l ∉ ls→fz' = fz)∧∀ v,v ≤ ver→seen fz ver v = true→seen fz' ver v = true
 | [],H,l,es,ver,fz,rows,h=>⟨fz,h,fun h=>h.elim (fun h=>by cases h) id,fun _=>rfl,fun _ _ h=>h⟩
 | k::ls,H,l,es,ver,fz,rows,h=>by
  have hlt:l < H.length:=(List.getElem?_eq_some_iff.1 h).1
  simp only[freeze]
  by_cases hk:k = l
  ·subst hk
   cases fz with
   | none =>
    have:(H.set k (.arr es (some ver) ver rows))[k]? = some (.arr es (some ver) ver rows):=List.getElem?_set_self hlt
    obtain⟨fz',h1,h2,_,h3⟩:=freeze_get ls this
    refine⟨fz',by rw[h]; exact h1,fun _=>h2 (.inr rfl),fun hn=>absurd (List.mem_cons_self ..) hn,fun v hv hs=>h3 v hv ?_⟩
    simp only[seen,beq_iff_eq]at hs
    simp[seen,hs]
   | some f =>
    obtain⟨fz',h1,h2,h4,h3⟩:=freeze_get ls h
    exact⟨fz',by rw[h]; exact h1,fun _=>h2 (.inr rfl),fun hn=>absurd (List.mem_cons_self ..) hn,h3⟩
  ·have hkeep:(match H[k]? with
    | some (.arr es none ver rows)=>H.set k (.arr es (some ver) ver rows)
    | _=>H)[l]? = some (.arr es fz ver rows):=by
    split
    ·rw[List.getElem?_set_ne hk]; exact h
    ·exact h
   obtain⟨fz',h1,h2,h4,h3⟩:=freeze_get ls hkeep
   refine⟨fz',h1,fun hm=>h2 ?_,fun hn=>h4 (fun hm=>hn (List.mem_cons_of_mem _ hm)),h3⟩
   rcases hm with hm | hm
   ·rcases List.mem_cons.1 hm with hm | hm
    ·exact absurd hm.symm hk
    ·exact .inl hm
   ·exact .inr hm
theorem toPV_rep{g':Gh}{ls:List Nat}{c:Value}{v:AV}{x:PV}(he:Evo w g H w g' (freeze H ls))(hr:Rep w g H c v)(hx:toPV H v = some x)(hl:∀ l v' o n,v = .ar l v' o n→l ∈ ls):RepP w g'.D c x:=by
 cases hr with
 | p h=>simp only[toPV,canon,Option.some.injEq]at hx; subst hx; exact h.mono he.D (fun _ _ _=>rfl)
 | lit h=>simp only[toPV,canon,Option.some.injEq]at hx; subst hx; exact h.mono he.D (fun _ _ _=>rfl)
 | @ar l v' off n p cap hA =>
  have hm:=hl l v' off n rfl
  obtain⟨_,_,es,fz,ver,rows,hH,hv,hoff,_⟩:=id hA
  have h2:=he.rep _ _ (.ar hA)
  obtain⟨fz',e1,e2,_,e3⟩:=freeze_get ls hH
  simp only[toPV,canon,rowsOf,hH]at hx
  split at hx
  ·rename_i y hy
   split at hy
   ·rename_i hc
    simp only[Option.map_some,Option.some.injEq,AV.p.injEq]at hy
    simp only[Option.some.injEq]at hx
    subst hx
    subst hy
    cases h2 with
    | ar hA' =>
     obtain⟨_,_,es2,fz2,ver2,rows2,hH2,_,_,hf2⟩:=hA'
     rw[e1]at hH2
     cases hH2
     obtain⟨h3,_⟩:=hf2 (e3 v' hv hc.1)
     cases fz' with
     | none=>have:=e2 (.inl hm); cases this
     | some f=>exact h3
   ·cases hy
  ·cases hx
 | agg=>simp only[toPV,canon]at hx; split at hx <;> simp_all
 | tup=>simp only[toPV,canon]at hx; split at hx <;> simp_all
 | nk h=>simp only[toPV,canon,Option.some.injEq]at hx; subst hx; exact h.empty
 | _=>simp[toPV,canon]at hx
theorem toPVs_rep{g':Gh}{ls:List Nat}(he:Evo w g H w g' (freeze H ls)):∀ {vs:List AV} {xs:List PV},toPVs H vs = some xs→(∀ l v' o n,AV.ar l v' o n ∈ vs→l ∈ ls) →
  vs.length = xs.length∧∀ (i:Nat) (c:Value) (v:AV) (x:PV),vs[i]? = some v→xs[i]? = some x→Rep w g H c v→RepP w g'.D c x
 | [],xs,h,_=>by cases h; exact⟨rfl,fun i c v x h=>by simp at h⟩
 | v::vs,xs,h,hl=>by
  simp only[toPVs,Option.bind_eq_some_iff,Option.map_eq_some_iff]at h
  obtain⟨x,hx,xs',hxs,rfl⟩:=h
  obtain⟨h1,h2⟩:=toPVs_rep he hxs (fun l v' o n hm=>hl l v' o n (List.mem_cons_of_mem _ hm))
  refine⟨by simp[h1],fun i c u y hu hy hr=>?_⟩
  cases i with
  | zero=>simp at hu hy; subst hu; subst hy; exact toPV_rep he hr hx (fun l v' o n e=>hl l v' o n (by rw[e]; exact List.mem_cons_self ..))
  | succ i=>simp at hu hy; exact h2 i c u y hu hy hr
theorem mem_arsOf:∀ {vs:List AV} {l:Nat},l ∈ arsOf vs↔∃ a ∈ vs,l ∈ arsA a
 | [],l=>by simp[arsOf]
 | a::aZ,l=>by simp[arsOf,mem_arsOf (vs:=aZ)]
theorem arsOf_mem{vs:List AV}{l v o n:Nat}(h:AV.ar l v o n ∈ vs):l ∈ arsOf vs:=mem_arsOf.2 ⟨_,h,by simp[arsA]⟩
theorem cellsOf_ars{u:AV}{cs:List AV}(h:cellsOf u = some cs){l v o n:Nat}(hm:AV.ar l v o n ∈ cs):l ∈ arsOf [u]:=by
 cases u <;> simp only[cellsOf,Option.some.injEq]at h <;> try (subst h; simp at hm; done)
 case agg cs' =>
  subst h
  simp only[arsOf,arsA,List.append_nil]
  exact arsOf_mem hm
 case ar=>subst h; simp at hm; simp[arsOf,arsA,hm]
 case tup=>cases h
end
end Go.Proofs.YtchgldaddcolhaaGreatDoor
namespace Go.Proofs.YtchgldaddcolhaaGreatDoor
open Go
variable[Sub]
section
variable{P:Program}{w:World}{g:Gh}{H:List Obj}
variable{a:Act}{dst:Option Tmp}{ty:TypeId}{pos:String}{after:Array Edge}{gd:Option (Nat×Bool)}
def RowsIn(w:World)(D:Nat→Nat→Prop)(es:Nat)(A:Array Value)(rows:List (List PV)):Prop :=
 A.size = rows.length * es∧(∀ r ∈ rows,r.length = es)∧∀ (i j:Nat) (row:List PV) (x:PV),rows[i]? = some row→row[j]? = some x→∃ c,A[i * es + j]? = some c∧RepP w D c x
theorem row_fit{i n es:Nat}(h:i < n):i * es + es ≤ n * es:=by
 have:=Nat.mul_le_mul_right es (show i + 1 ≤ n by omega)
 rwa [Nat.add_mul,Nat.one_mul]at this
theorem row_out{i k j es:Nat}(h:i ≠ k)(hj:j < es):¬ (k * es ≤ i * es + j∧i * es + j < k * es + es):=by
 intro hc
 rcases Nat.lt_or_ge i k with h1 | h1
 ·have:=row_fit (es:=es) h1; omega
 ·have:=row_fit (es:=es) (show k < i by omega); omega
theorem fillRows_rep{kn:TypeId→Bool}{e:Fr}(he:EnvRel w g H a.tmps e){own:List Nat}{es:Nat}{el:TypeId}{g':Gh}{ls:List Nat}(hev:Evo w g H w g' (freeze H ls)) :
  ∀ {ps:List (Nat×Operand)} {sps:List (Nat×SA)} {A:Array Value} {z rows:List (List PV)},
  compParts kn own (fun i=>some (i,el)) ps = some sps→fillRows H e es z sps = some rows→(∀ l ∈ partArs e sps,l ∈ ls)→RowsIn w g'.D es A z →
  ∃ A',Instr.fill (fun i=>some (i * es,es)) A (ps.map fun p=>(p.1,a.eval p.2)) = some A'∧RowsIn w g'.D es A' rows
 | [],sps,A,z,rows,h1,h2,_,hA=>by
  simp only[compParts,Option.some.injEq]at h1
  subst h1
  simp only[fillRows,Option.some.injEq]at h2
  subst h2
  exact⟨A,rfl,hA⟩
 | (i,x)::ps,sps,A,z,rows,h1,h2,hls,hA=>by
  simp only[compParts,Option.bind_eq_some_iff,Option.map_eq_some_iff,Option.some.injEq]at h1
  obtain⟨⟨off,t⟩,hpl,sa,hsa,sps',hsps,rfl⟩:=h1
  cases hpl
  simp only[fillRows,Option.bind_eq_some_iff]at h2
  obtain⟨v,hv,cs,hcs,r,hr,h2⟩:=h2
  split at h2
  ·rename_i hlen
   simp only[Option.bind_eq_some_iff]at h2
   obtain⟨z',hz',h2⟩:=h2
   obtain⟨hA1,hA2,hA3⟩:=hA
   obtain⟨hc1,hc2⟩:=cellsOf_rep (arg_rep he hsa hv) hcs
   obtain⟨ht1,ht2⟩:=toPVs_rep (vs:=cs) (ls:=ls) hev hr (fun l v' o n hm=>hls l (by
    simp only[partArs,hv,List.mem_append]; exact .inl (cellsOf_ars hcs hm)))
   obtain⟨hb,_⟩:=splice_eq hz'
   simp only[List.length_singleton]at hb
   have hin:i < z.length:=by omega
   have hrf:=row_fit (es:=es) hin
   have hfit:i * es + (a.eval x).cells.size ≤ A.size:=by omega
   obtain⟨hf1,hf2⟩:=fold_get (i * es) (a.eval x).cells A hfit
   have hmem:∀ q ∈ z',q.length = es:=fun q hq=>by
    obtain⟨j,hj⟩:=List.mem_iff_getElem?.1 hq
    rw[splice_get hz']at hj
    split at hj
    ·have:=List.mem_of_getElem? hj
     simp at this; rw[this]; exact hlen
    ·exact hA2 _ (List.mem_of_getElem? hj)
   obtain⟨A',hA',hrep⟩:=fillRows_rep he hev (A:=(a.eval x).cells.zipIdx.foldl (fun cs (c,j)=>cs.setIfInBounds (i * es + j) c) A) hsps h2
    (fun l hl=>hls l (by simp only[partArs,List.mem_append]; exact .inr hl)) ⟨by rw[hf1,splice_len hz']; exact hA1,hmem,fun k j row y hk hj=>by
     rw[hf2]
     have hjl:j < es:=by rw[← hmem row (List.mem_of_getElem? hk)]; exact (List.getElem?_eq_some_iff.1 hj).1
     rw[splice_get hz']at hk
     simp only[List.length_singleton]at hk
     by_cases hki:k = i
     ·subst hki
      rw[if_pos (by omega),Nat.sub_self]at hk
      simp only[List.getElem?_cons_zero,Option.some.injEq]at hk
      subst hk
      rw[if_pos (by omega),show k * es + j - k * es = j by omega]
      have hjc:j < (a.eval x).cells.size:=by omega
      refine⟨(a.eval x).cells[j],by simp[hjc],?_⟩
      have hjcs:j < cs.length:=by omega
      exact ht2 j _ cs[j] y (by simp[hjcs]) hj (hc2 j _ cs[j] (by simp[hjc]) (by simp[hjcs])).1
     ·rw[if_neg (by omega)]at hk
      have:=row_out (es:=es) hki hjl
      rw[if_neg (by omega)]
      exact hA3 k j row y hk hj⟩
   refine⟨A',?_,hrep⟩
   simp only[List.map_cons,Instr.fill]
   rw[if_neg (by simp; omega)]
   exact hA'
  ·cases h2
theorem sim_slit{kn:TypeId→Bool}{e:Fr}(he:EnvRel w g H a.tmps e){own:List Nat}{t el:TypeId}{ti:TypeInfo}{zero:List PV}{n:Nat}{ps:Array (Nat×Operand)}{sps:List (Nat×SA)}{rows:List (List PV)}(hs:StRel w g H)(ht:P.underlying t = some (.slice el))(hi:P.info? el = some ti)(hz:zeroP P kn el = some zero)(hl:zero.length = ti.size)(hb:n * ti.size ≤ 16777216)(hc:compParts kn own (fun i=>some (i,el)) ps.toList = some sps)(hf:fillRows H e zero.length (List.replicate n zero) sps = some rows) :
  OpSim P a w g H ⟨dst,.buildSlice t n ps,ty,pos,after,gd⟩ (.lit rows) (freeze H (partArs e sps)):=by
 obtain⟨g1,e1,s1⟩:=evo_freeze (partArs e sps) hs
 obtain⟨i,z,hi',hz',hzl,hzr⟩:=zeroP_rep (w:=w) hz
 rw[hi]at hi'
 cases hi'
 have h0:RowsIn w g1.D zero.length (madeCells z.cells (n * ti.size)) (List.replicate n zero):=by
  refine⟨by rw[size_madeCells,hl]; simp,fun r hr=>by simp at hr; rw[hr.2],fun i j row x hrow hx'=>?_⟩
  rw[List.getElem?_replicate]at hrow
  split at hrow
  ·rename_i hin
   cases hrow
   have hj:j < zero.length:=(List.getElem?_eq_some_iff.1 hx').1
   have hjz:j < z.cells.size:=by omega
   refine⟨z.cells[j],?_,hzr _ j _ _ (by simp[hjz]) hx'⟩
   rw[hl,madeCells_get (by omega) (by omega) (by omega)]
   simp[hjz]
  ·cases hrow
 obtain⟨A',hA',hr1,hr2,hr3⟩:=fillRows_rep he e1 hc hf (fun l hl=>hl) h0
 have hrl:∀ {ps:List (Nat×SA)} {z rows:List (List PV)},fillRows H e zero.length z ps = some rows→rows.length = z.length:=by
  intro ps
  induction ps with
  | nil=>intro z rows h; simp only[fillRows,Option.some.injEq]at h; rw[h]
  | cons p ps ih =>
   intro z rows h
   simp only[fillRows,Option.bind_eq_some_iff]at h
   obtain⟨v,hv,cs,hcs,r,hr,h⟩:=h
   split at h
   ·simp only[Option.bind_eq_some_iff]at h
    obtain⟨z',hz',h⟩:=h
    rw[ih h,splice_len hz']
   ·cases h
 have hlen:rows.length = n:=by rw[hrl hf]; simp
 have hp:Pushed w (w.alloc (.cells A' el)) (.cells A' el (0,0)):=⟨rfl,rfl,rfl,⟨rfl,Nat.le_refl _⟩⟩
 obtain⟨e2,s2⟩:=evo_lit hp s1
 have hfill:Instr.fill (fun i=>some (i * ti.size,ti.size)) (madeCells z.cells (n * ti.size)) (ps.toList.map fun p=>(p.1,a.eval p.2)) = some A':=by rw[hl]at hA'; exact hA'
 have hrun:(Instr.buildSlice t n (ps.map fun p=>(p.1,a.eval p.2))).run P w = .ok (.slice (some ⟨w.heap.size,0,none⟩) n n) (w.alloc (.cells A' el)):=by
  have hb':¬ (16777216 < n * ti.size):=by omega
  by_cases hn:n * ti.size = 0
  ·have hmz:madeCells z.cells (n * ti.size) = #[]:=by rw[hn]; simp[madeCells,Array.range_zero']
   rw[hmz]at hfill
   simp[Instr.buildSlice,run_underlying ht,sizeOf,typeInfo,hi,hn,hfill,newRow,Array.range_zero']
  ·unfold madeCells at hfill
   simp[Instr.buildSlice,run_underlying ht,sizeOf,typeInfo,zeroValue,hz',hi,hb',hn,hfill,newRow]
 refine⟨.slice (some ⟨w.heap.size,0,none⟩) n n,w.alloc (.cells A' el),_,.inl (by simp[execOp,hrun]),e1.trans e2,s2,.inr ?_⟩
 refine .lit (RepP.of_rows (es:=zero.length) hlen (Nat.le_refl _) hr2 (fun i j row x hrow hx=>⟨.inr rfl,?_⟩))
 obtain⟨c,h1,h2⟩:=hr3 i j row x hrow hx
 refine⟨c,?_,h2.mono e2.D e2.cells⟩
 rw[cellAt_cells hp.new,Nat.zero_add]
 exact h1
theorem sim_slitA{kn:TypeId→Bool}{e:Fr}(he:EnvRel w g H a.tmps e){own:List Nat}{t el:TypeId}{ti:TypeInfo}{zero:List PV}{n:Nat}{ps:Array (Nat×Operand)}{sps:List (Nat×SA)}{rows:List (List PV)}(hs:StRel w g H)(ht:P.underlying t = some (.slice el))(hi:P.info? el = some ti)(hz:zeroP P kn el = some zero)(hl:zero.length = ti.size)(hb:n * ti.size ≤ 16777216)(hc:compParts kn own (fun i=>some (i,el)) ps.toList = some sps)(hf:fillRows H e zero.length (List.replicate n zero) sps = some rows) :
  OpSim P a w g H ⟨dst,.buildSlice t n ps,ty,pos,after,gd⟩ (.ar (freeze H (partArs e sps)).length 0 0 rows.length) (freeze H (partArs e sps)++[.arr zero.length none 0 rows]):=by
 obtain⟨g1,e1,s1⟩:=evo_freeze (partArs e sps) hs
 obtain⟨i,z,hi',hz',hzl,hzr⟩:=zeroP_rep (w:=w) hz
 rw[hi]at hi'
 cases hi'
 have h0:RowsIn w g1.D zero.length (madeCells z.cells (n * ti.size)) (List.replicate n zero):=by
  refine⟨by rw[size_madeCells,hl]; simp,fun r hr=>by simp at hr; rw[hr.2],fun i j row x hrow hx'=>?_⟩
  rw[List.getElem?_replicate]at hrow
  split at hrow
  ·rename_i hin
   cases hrow
   have hj:j < zero.length:=(List.getElem?_eq_some_iff.1 hx').1
   have hjz:j < z.cells.size:=by omega
   refine⟨z.cells[j],?_,hzr _ j _ _ (by simp[hjz]) hx'⟩
   rw[hl,madeCells_get (by omega) (by omega) (by omega)]
   simp[hjz]
  ·cases hrow
 obtain⟨A',hA',hr1,hr2,hr3⟩:=fillRows_rep he e1 hc hf (fun l hl=>hl) h0
 have hrl:∀ {ps:List (Nat×SA)} {z rows:List (List PV)},fillRows H e zero.length z ps = some rows→rows.length = z.length:=by
  intro ps
  induction ps with
  | nil=>intro z rows h; simp only[fillRows,Option.some.injEq]at h; rw[h]
  | cons p ps ih =>
   intro z rows h
   simp only[fillRows,Option.bind_eq_some_iff]at h
   obtain⟨v,hv,cs,hcs,r,hr,h⟩:=h
   split at h
   ·simp only[Option.bind_eq_some_iff]at h
    obtain⟨z',hz',h⟩:=h
    rw[ih h,splice_len hz']
   ·cases h
 have hlen:rows.length = n:=by rw[hrl hf]; simp
 have hp:Pushed w (w.alloc (.cells A' el)) (.cells A' el (0,0)):=⟨rfl,rfl,rfl,⟨rfl,Nat.le_refl _⟩⟩
 have hfill:Instr.fill (fun i=>some (i * ti.size,ti.size)) (madeCells z.cells (n * ti.size)) (ps.toList.map fun p=>(p.1,a.eval p.2)) = some A':=by rw[hl]at hA'; exact hA'
 have hrun:(Instr.buildSlice t n (ps.map fun p=>(p.1,a.eval p.2))).run P w = .ok (.slice (some ⟨w.heap.size,0,none⟩) n n) (w.alloc (.cells A' el)):=by
  have hb':¬ (16777216 < n * ti.size):=by omega
  by_cases hn:n * ti.size = 0
  ·have hmz:madeCells z.cells (n * ti.size) = #[]:=by rw[hn]; simp[madeCells,Array.range_zero']
   rw[hmz]at hfill
   simp[Instr.buildSlice,run_underlying ht,sizeOf,typeInfo,hi,hn,hfill,newRow,Array.range_zero']
  ·unfold madeCells at hfill
   simp[Instr.buildSlice,run_underlying ht,sizeOf,typeInfo,zeroValue,hz',hi,hb',hn,hfill,newRow]
 obtain⟨cv,w',g',q1,q2,q3,q4⟩:=sim_newArr (P:=P) (a:=a) (o:=⟨dst,.buildSlice t n ps,ty,pos,after,gd⟩) (cap:=n) (rows:=rows) (es:=zero.length) s1 (by rw[hlen]; simp[execOp,hrun]) hp (by omega) hr2 (by rw[hr1,hlen]; exact Nat.le_refl _) hr3
 exact⟨cv,w',g',q1,e1.trans q2,q3,q4⟩
theorem run_storeVar_at{t:TypeId}{ti:TypeInfo}{b o:Nat}{cur:Array Value}{e:TypeId}{v:Value}(hi:P.info? t = some ti)(hb:w.heap[b]? = some (.cells cur e (0,0)))(hsz:v.cells.size = ti.size)(hfit:o + ti.size ≤ cur.size)(h1:∀ c ∈ v.cells.toList,c.oneCell' = true) :
  (storeVar t ⟨b,o,none⟩ v).run P w = .ok () (w.setRow b (cur.toList.take o++v.cells.toList++cur.toList.drop (o + v.cells.toList.length)).toArray):=by
 have:=run_storeCells_at P b o e v.cells.toList 0 cur w hb (by simp; omega) h1
 simp only[Nat.add_zero]at this
 simp[storeVar,sizeOf,typeInfo,hi,hsz,this]
theorem setRow_only{b:Nat}{cur new:Array Value}{e:TypeId}{D:Nat→Nat→Prop}(hb:w.heap[b]? = some (.cells cur e (0,0)))(hsz:new.size = cur.size)(hD:∀ i,D b i→new[i]? = cur[i]?):Only w (w.setRow b new) b D :=
 ⟨fun k hk=>setRow_other w b k new hk,setRow_size w b new,rfl,rfl,⟨rfl,Nat.le_refl _⟩,fun vs e' f h=>by
  rw[hb]at h
  cases h
  exact⟨new,setRow_heap w b cur new e _ hb,hsz,hD⟩,fun h=>absurd hb (h _ _ _)⟩
theorem new_get{vs:Array Value}{cs:List Value}{o:Nat}(hfit:o + cs.length ≤ vs.size)(i:Nat) :
  ((vs.toList.take o++cs++vs.toList.drop (o + cs.length)).toArray)[i]? = if o ≤ i∧i < o + cs.length then cs[i - o]? else vs[i]?:=by
 have:=seg_get (cs:=vs.toList) (xs:=cs) (n:=o) (by simpa using hfit) i
 rw[List.getElem?_toArray,this]
 simp
theorem new_size{vs:Array Value}{cs:List Value}{o:Nat}(hfit:o + cs.length ≤ vs.size):((vs.toList.take o++cs++vs.toList.drop (o + cs.length)).toArray).size = vs.size:=by
 simp; omega
theorem evo_cells{r off:Nat}{c c' cs:List AV}{vals:List Value}(hs:StRel w g H)(hH:H[r]? = some (.cells c))(hsp:splice c off cs = some c')(hlen:vals.length = cs.length)(hv:∀ (i:Nat) (u:Value) (x:AV),vals[i]? = some u→cs[i]? = some x→Rep w g H u x∧u.oneCell' = true):∃ vs e,w.heap[g.blk r]? = some (.cells vs e (0,0))∧off + vals.length ≤ vs.size ∧
  Evo w g H (w.setRow (g.blk r) (vs.toList.take off++vals++vs.toList.drop (off + vals.length)).toArray) g (H.set r (.cells c')) ∧
  StRel (w.setRow (g.blk r) (vs.toList.take off++vals++vs.toList.drop (off + vals.length)).toArray) g (H.set r (.cells c')):=by
 obtain⟨vs,e,h1,h2,h3⟩:=hs.objs _ _ hH
 obtain⟨hb,_⟩:=splice_eq hsp
 have hfit:off + vals.length ≤ vs.size:=by omega
 have hnoD:∀ i,¬ g.D (g.blk r) i:=hs.stand r _ hH
 have hlt:r < H.length:=(List.getElem?_eq_some_iff.1 hH).1
 refine⟨vs,e,h1,hfit,evo_obj (g':=g) (o':=.cells c') (Q:=fun _=>False) hs hH rfl rfl rfl (fun b i=>by simp) (setRow_only h1 (new_size hfit) (fun i hd=>absurd hd (hnoD i)))
  (.cells hH (List.getElem?_set_self hlt) rfl) (fun hr=>⟨_,e,setRow_heap w (g.blk r) vs _ e _ h1,by rw[new_size hfit,splice_len hsp]; exact h2,fun i v x hv' hx=>?_⟩) hnoD⟩
 rw[new_get hfit]at hv'
 rw[splice_get hsp]at hx
 by_cases hi:off ≤ i∧i < off + vals.length
 ·rw[if_pos hi]at hv'
  rw[if_pos (by omega)]at hx
  exact⟨hr _ _ (hv _ _ _ hv' hx).1,(hv _ _ _ hv' hx).2⟩
 ·rw[if_neg hi]at hv'
  rw[if_neg (by omega)]at hx
  exact⟨hr _ _ (h3 _ _ _ hv' hx).1,(h3 _ _ _ hv' hx).2⟩
theorem evo_row{l es ver i k:Nat}{rows:List (List PV)}{row row' ps:List PV}{vals:List Value}(hs:StRel w g H)(hH:H[l]? = some (.arr es none ver rows))(hrow:rows[i]? = some row)(hsp:splice row k ps = some row')(hlen:vals.length = ps.length)(hv:∀ (j:Nat) (u:Value) (x:PV),vals[j]? = some u→ps[j]? = some x→RepP w g.D u x):∃ vs e,w.heap[g.blk l]? = some (.cells vs e (0,0))∧g.base l + i * es + k + vals.length ≤ vs.size ∧
  Evo w g H (w.setRow (g.blk l) (vs.toList.take (g.base l + i * es + k)++vals++vs.toList.drop (g.base l + i * es + k + vals.length)).toArray) g (H.set l (.arr es none ver (rows.set i row'))) ∧
  StRel (w.setRow (g.blk l) (vs.toList.take (g.base l + i * es + k)++vals++vs.toList.drop (g.base l + i * es + k + vals.length)).toArray) g (H.set l (.arr es none ver (rows.set i row'))):=by
 obtain⟨h1,h2,⟨vs,e,h3,h4⟩,h5,h6⟩:=hs.objs _ _ hH
 obtain⟨hb,_⟩:=splice_eq hsp
 have hnoD:∀ i,¬ g.D (g.blk l) i:=hs.stand l _ hH
 have hlt:l < H.length:=(List.getElem?_eq_some_iff.1 hH).1
 have hil:i < rows.length:=(List.getElem?_eq_some_iff.1 hrow).1
 have hrl:row.length = es:=h2 row (List.mem_of_getElem? hrow)
 have hrf:=row_fit (es:=es) (show i < g.cap l by omega)
 have hfit:g.base l + i * es + k + vals.length ≤ vs.size:=by omega
 have ho:=setRow_only (D:=g.D) h3 (new_size hfit) (fun i hd=>absurd hd (hnoD i))
 refine⟨vs,e,h3,hfit,evo_obj (g':=g) (o':=.arr es none ver (rows.set i row')) (Q:=fun _=>False) hs hH rfl rfl rfl (fun b i=>by simp) ho
  (.store hH (List.getElem?_set_self hlt) (by simp) rfl rfl rfl) (fun _=>⟨by simpa using h1,fun r hr=>?_,⟨_,e,setRow_heap w (g.blk l) vs _ e _ h3,by rw[new_size hfit]; exact h4⟩,fun i' j r x hi' hj=>?_,fun _ _ hf=>by cases hf⟩) hnoD⟩
 ·rcases List.mem_or_eq_of_mem_set hr with h | h
  ·exact h2 r h
  ·rw[h,splice_len hsp,hrl]
 ·rw[cellAt_cells (setRow_heap w (g.blk l) vs _ e _ h3),new_get hfit]
  rw[List.getElem?_set]at hi'
  by_cases hii:i = i'
  ·subst hii
   rw[if_pos rfl,if_pos hil]at hi'
   cases hi'
   have hjl:j < es:=by have:=(List.getElem?_eq_some_iff.1 hj).1; rw[splice_len hsp,hrl]at this; exact this
   rw[splice_get hsp]at hj
   by_cases hjk:k ≤ j∧j < k + ps.length
   ·rw[if_pos hjk]at hj
    rw[if_pos (by omega),show g.base l + i * es + j - (g.base l + i * es + k) = j - k by omega]
    have hjv:j - k < vals.length:=by omega
    exact⟨vals[j - k],by simp[hjv],(hv (j - k) _ x (by simp[hjv]) hj).mono (fun _ _ h=>h) ho.cells⟩
   ·rw[if_neg hjk]at hj
    rw[if_neg (by omega)]
    obtain⟨c,e1,e2⟩:=h5 i j row x hrow hj
    exact⟨c,by rw[← cellAt_cells h3]; exact e1,e2.mono (fun _ _ h=>h) ho.cells⟩
  ·rw[if_neg hii]at hi'
   have hjl:j < es:=by rw[← h2 r (List.mem_of_getElem? hi')]; exact (List.getElem?_eq_some_iff.1 hj).1
   have:=row_out (es:=es) (Ne.symm hii) hjl
   rw[if_neg (by omega)]
   obtain⟨c,e1,e2⟩:=h5 i' j r x hi' hj
   exact⟨c,by rw[← cellAt_cells h3]; exact e1,e2.mono (fun _ _ h=>h) ho.cells⟩
theorem Rep.elp_inv{c:Value}{l v i k:Nat}(h:Rep w g H c (.elp l v i k)):∃ b o,c = .pointer (some ⟨b,o,none⟩)∧ElpOk w g H l v i k b o:=by
 cases h with
 | elp h=>exact⟨_,_,rfl,h⟩
theorem Rep.ar_inv{c:Value}{l v off len:Nat}(h:Rep w g H c (.ar l v off len)):∃ p cap,c = .slice p len cap∧ArOk w g H l v off len p cap:=by
 cases h with
 | ar h=>exact⟨_,_,rfl,h⟩
theorem sim_store{t:TypeId}{ti:TypeInfo}{x y:Operand}{u v:AV}{cs:List AV}{H':List Obj}(hs:StRel w g H)(hi:P.info? t = some ti)(hx:Rep w g H (a.eval x) u)(hy:Rep w g H (a.eval y) v)(hc:cellsOf v = some cs)(hl:cs.length = ti.size)(h:storeC H u cs = some H'):OpSim P a w g H ⟨none,.store t x y,ty,pos,after,gd⟩ (.p .nsl) H':=by
 obtain⟨hc1,hc2⟩:=cellsOf_rep hy hc
 have hone:∀ c ∈ (a.eval y).cells.toList,c.oneCell' = true:=fun c hm=>by
  obtain⟨i,hi⟩:=List.mem_iff_getElem?.1 hm
  have hil:i < cs.length:=by have:=(List.getElem?_eq_some_iff.1 hi).1; simp at this; omega
  exact (hc2 i c cs[i] (by simpa using hi) (by simp[hil])).2
 generalize hp:a.eval x = p at hx
 cases hx with
 | @ptr r off c hH =>
  simp only[storeC,hH,Option.map_eq_some_iff]at h
  obtain⟨c',hsp,rfl⟩:=h
  obtain⟨vs,e,h1,hfit,e1,e2⟩:=evo_cells (vals:=(a.eval y).cells.toList) hs hH hsp (by simpa using hc1) (fun i u x hu hx=>hc2 i u x (by simpa using hu) hx)
  have hr:=run_storeVar_at (P:=P) (v:=a.eval y) hi h1 (by omega) (o:=off) (by simp at hfit; omega) hone
  exact⟨undef,_,g,.inr ⟨by simp[execOp,hp,Instr.storeAt,Instr.sureAddr,hr],rfl⟩,e1,e2,.inl rfl⟩
 | @elp l v' i k b o he =>
  obtain⟨es,fz,ver,rows,hH,hv,hil,hf⟩:=he
  unfold storeC at h
  simp only at h
  split at h
  ·cases h
  ·rename_i hnc
   simp only[hH]at h
   cases fz with
   | some f=>cases h
   | none =>
    simp only at h
    split at h
    ·rename_i hvv
     subst hvv
     simp only[Option.bind_eq_some_iff,Option.map_eq_some_iff]at h
     obtain⟨row,hrow,ps,hps,row',hsp,rfl⟩:=h
     obtain⟨rfl,rfl⟩:=hf (by simp[seen])
     obtain⟨g1,f1,s1⟩:=evo_freeze (arsOf cs) hs
     have hnl:l ∉ arsOf cs:=by simpa using hnc
     obtain⟨fz',q1,_,q2,_⟩:=freeze_get (arsOf cs) hH
     rw[q2 hnl]at q1
     obtain⟨t1,t2⟩:=toPVs_rep (vs:=cs) (ls:=arsOf cs) f1 hps (fun l v' o n hm=>arsOf_mem hm)
     have hblk:g1.blk l = g.blk l∧g1.base l = g.base l:=by
      have:=f1.rep _ _ (.elp (v:=v') (i:=i) (k:=k) ⟨es,none,v',rows,hH,Nat.le_refl _,hil,fun _=>⟨rfl,rfl⟩⟩)
      obtain⟨b2,o2,hbo,es2,fz2,ver2,rows2,hH2,_,_,hf2⟩:=this.elp_inv
      rw[q1]at hH2
      cases hH2
      obtain⟨d1,d2⟩:=hf2 (by simp[seen])
      simp only[Value.pointer.injEq,Option.some.injEq,Addr.mk.injEq]at hbo
      exact⟨by rw[← d1]; exact hbo.1.symm,by omega⟩
     obtain⟨vs,e,h1,hfit,e1,e2⟩:=evo_row (vals:=(a.eval y).cells.toList) s1 q1 hrow hsp (by simp; omega) (fun j u x hu hx=>by
      have hj:j < cs.length:=by have:=(List.getElem?_eq_some_iff.1 hx).1; omega
      exact t2 j u cs[j] x (by simp[hj]) hx (hc2 j u cs[j] (by simpa using hu) (by simp[hj])).1)
     simp only[hblk.1,hblk.2]at h1 hfit e1 e2
     have hr:=run_storeVar_at (P:=P) (v:=a.eval y) hi h1 (by omega) (o:=g.base l + i * es + k) (by simp at hfit; omega) hone
     exact⟨undef,_,g1,.inr ⟨by simp[execOp,hp,Instr.storeAt,Instr.sureAddr,hr],rfl⟩,f1.trans e1,e2,.inl rfl⟩
    ·cases h
 | _=>simp[storeC]at h
end
end Go.Proofs.YtchgldaddcolhaaGreatDoor
namespace Go.Proofs.YtchgldaddcolhaaGreatDoor
open Go
variable[Sub]
section
variable{P:Program}{w:World}{g:Gh}{H:List Obj}
variable{a:Act}{dst:Option Tmp}{ty:TypeId}{pos:String}{after:Array Edge}{gd:Option (Nat×Bool)}
def News(w:World)(D:Nat→Nat→Prop)(es:Nat)(ys:List (List PV))(news:List Value):Prop :=
 news.length = ys.length * es∧(∀ u ∈ news,u.oneCell' = true)∧∀ (i j:Nat) (row:List PV) (x:PV),ys[i]? = some row→row[j]? = some x→∃ u,news[i * es + j]? = some u∧RepP w D u x
theorem news_of{D:Nat→Nat→Prop}{es b o:Nat}{ys:List (List PV)}(hes:∀ r ∈ ys,r.length = es)(h:∀ (i j:Nat) (row:List PV) (x:PV),ys[i]? = some row→row[j]? = some x→∃ u,cellAt w b (o + i * es + j) = some u∧RepP w D u x) :
  ∃ news:List Value,News w D es ys news∧∀ k u,news[k]? = some u→w.cell? ((⟨b,o,none⟩:Addr).add k) = some u:=by
 have key:∀ k,k < ys.length * es→∃ u,cellAt w b (o + k) = some u∧u.oneCell' = true:=fun k hk=>by
  have he:0 < es:=by
   rcases Nat.eq_zero_or_pos es with h0 | h0
   ·rw[h0]at hk; simp at hk
   ·exact h0
  have hi:k / es < ys.length:=(Nat.div_lt_iff_lt_mul he).2 hk
  have hj:k % es < es:=Nat.mod_lt _ he
  have hrl:=hes ys[k / es] (List.getElem_mem hi)
  obtain⟨u,h1,h2⟩:=h (k / es) (k % es) ys[k / es] (ys[k / es][k % es]'(by omega)) (by simp[hi]) (by simp[hrl,hj])
  have hd:=Nat.div_add_mod k es
  rw[Nat.mul_comm]at hd
  exact⟨u,by rw[← h1]; congr 1; omega,h2.one⟩
 refine⟨(List.range (ys.length * es)).map fun k=>(cellAt w b (o + k)).getD undef,⟨by simp,fun u hu=>?_,fun i j row x hi hj=>?_⟩,fun k u hk=>?_⟩
 ·simp only[List.mem_map,List.mem_range]at hu
  obtain⟨k,hk,rfl⟩:=hu
  obtain⟨u,h1,h2⟩:=key k hk
  rw[h1]; exact h2
 ·obtain⟨u,h1,h2⟩:=h i j row x hi hj
  have hil:i < ys.length:=(List.getElem?_eq_some_iff.1 hi).1
  have hjl:j < es:=by rw[← hes row (List.mem_of_getElem? hi)]; exact (List.getElem?_eq_some_iff.1 hj).1
  have:=row_fit (es:=es) hil
  refine⟨u,?_,h2⟩
  rw[List.getElem?_map,List.getElem?_range (by omega)]
  simp only[Option.map_some,← Nat.add_assoc,h1,Option.getD_some]
 ·rw[List.getElem?_map,Option.map_eq_some_iff]at hk
  obtain⟨k',hk',rfl⟩:=hk
  obtain⟨hlt,rfl⟩:=List.getElem?_eq_some_iff.1 hk'
  simp only[List.length_range]at hlt
  simp only[List.getElem_range]
  obtain⟨u,h1,_⟩:=key k hlt
  rw[addr_add,h1]
  exact h1
theorem news_arg{es:Nat}{c:Value}{v:AV}{ys:List (List PV)}(hs:StRel w g H)(h:Rep w g H c v)(hy:rowsOf H v = some ys)(hes:∀ r ∈ ys,r.length = es) :
  ∃ p cap news,c = .slice p ys.length cap∧News w g.D es ys news∧((ys = []∧news = [])∨∃ ad,p = some ad∧∀ k u,news[k]? = some u→w.cell? (ad.add k) = some u):=by
 obtain⟨p,cap,hc,_,hcell⟩:=rows_rep hs h hy hes
 cases ys with
 | nil=>exact⟨p,cap,[],hc,⟨by simp,by simp,fun i j row x h=>by simp at h⟩,.inl ⟨rfl,rfl⟩⟩
 | cons y ys =>
  obtain⟨b,o,rfl,h2⟩:=hcell (by simp)
  obtain⟨news,h3,h4⟩:=news_of hes h2
  exact⟨_,cap,news,hc,h3,.inr ⟨_,rfl,h4⟩⟩
theorem News.append{D:Nat→Nat→Prop}{es:Nat}{xs ys:List (List PV)}{aZ bs:List Value}(hx:News w D es xs aZ)(hy:News w D es ys bs):News w D es (xs++ys) (aZ++bs):=by
 obtain⟨a1,a2,a3⟩:=hx
 obtain⟨b1,b2,b3⟩:=hy
 refine⟨by simp[a1,b1,Nat.add_mul],fun u hu=>?_,fun i j row x hi hj=>?_⟩
 ·rcases List.mem_append.1 hu with h | h
  ·exact a2 u h
  ·exact b2 u h
 ·rw[List.getElem?_append]at hi
  split at hi
  ·obtain⟨u,h1,h2⟩:=a3 i j row x hi hj
   have:=(List.getElem?_eq_some_iff.1 h1).1
   exact⟨u,by rw[List.getElem?_append_left this]; exact h1,h2⟩
  ·rename_i hge
   obtain⟨u,h1,h2⟩:=b3 (i - xs.length) j row x hi hj
   refine⟨u,?_,h2⟩
   have hm:(i - xs.length) * es + xs.length * es = i * es:=by rw[← Nat.add_mul]; congr 1; omega
   rw[List.getElem?_append_right (by omega),← h1]
   congr 1
   omega
theorem run_append_call{c:Call}{x y:Operand}{t:TypeId}(hc:c.callee = .builtin .append)(ha:c.args.toList = [x,y])(ht:c.argTypes.toList = [t,t]) :
  (execOp a.eval ⟨dst,.call c,ty,pos,after,gd⟩).run P w = ((Builtin.append_ #[t,t] ty #[a.eval x,a.eval y]).run P w).andThen fun r w=>.ok (.value r) w:=by
 have ha':c.args = #[x,y]:=by rw[← Array.toList_inj]; exact ha
 have ht':c.argTypes = #[t,t]:=by rw[← Array.toList_inj]; exact ht
 simp[execOp,resolve,hc,ha',ht',Go.invoke,Go.builtin]
theorem run_append_room'{t ty e:TypeId}{i:TypeInfo}(ht:P.underlying t = some (.slice e))(hi:P.info? e = some i){b o sLen sCap m c:Nat}{cur:Array Value}{te:TypeId}{p:Option Addr}{news:List Value}(hg:w.heap[b]? = some (.cells cur te (0,0)))(hf:(Builtin.firstCells i.size m (.slice p m c)).run P w = .ok news.toArray w)(h1:∀ u ∈ news,u.oneCell' = true)(hroom:sLen + m ≤ sCap)(hfit:o + sLen * i.size + news.length ≤ cur.size) :
  (Builtin.append_ #[t,t] ty #[.slice (some ⟨b,o,none⟩) sLen sCap,.slice p m c]).run P w =
   .ok (.slice (some ⟨b,o,none⟩) (sLen + m) sCap) (w.setRow b (cur.toList.take (o + sLen * i.size)++news++cur.toList.drop (o + sLen * i.size + news.length)).toArray):=by
 have hst:=run_storeCells_at P b (o + sLen * i.size) te news 0 cur w hg (by simpa using hfit) h1
 simp only[Nat.add_zero]at hst
 simp[Builtin.append_,run_underlying ht,sizeOf,typeInfo,hi,Builtin.lenOf,hroom,hf,addr_add,hst]
theorem run_append_empty{t ty e:TypeId}{i:TypeInfo}(ht:P.underlying t = some (.slice e))(hi:P.info? e = some i){q p:Option Addr}{sLen sCap c:Nat}(hle:sLen ≤ sCap) :
  (Builtin.append_ #[t,t] ty #[.slice q sLen sCap,.slice p 0 c]).run P w = .ok (.slice q sLen sCap) w:=by
 cases q <;> cases p <;> simp[Builtin.append_,run_underlying ht,sizeOf,typeInfo,hi,Builtin.lenOf,hle,Builtin.firstCells,loadCells,loadCellsFrom,storeCells]
theorem firstCells_news{es m c:Nat}{p:Option Addr}{news:List Value}(hl:news.length = m * es)(h:(m = 0∧news = [])∨∃ ad,p = some ad∧∀ k u,news[k]? = some u→w.cell? (ad.add k) = some u) :
  (Builtin.firstCells es m (.slice p m c)).run P w = .ok news.toArray w:=by
 rcases h with ⟨rfl,rfl⟩ | ⟨ad,rfl,h⟩
 ·cases p <;> simp[Builtin.firstCells,loadCells,loadCellsFrom]
 ·exact run_firstCells_some (P:=P) w es m ad m c news hl h
theorem grown_rows{D:Nat→Nat→Prop}{es cap:Nat}{rows:List (List PV)}{cells:List Value}{z:Array Value}(hn:News w D es rows cells)(hz:z.size = es)(hcap:rows.length ≤ cap) :
  cap * es ≤ (cells.toArray++Builtin.zeroCells z (cap - rows.length)).size ∧
  ∀ (i j:Nat) (row:List PV) (x:PV),rows[i]? = some row→row[j]? = some x→∃ c,(cells.toArray++Builtin.zeroCells z (cap - rows.length))[i * es + j]? = some c∧RepP w D c x:=by
 obtain⟨h1,_,h3⟩:=hn
 refine⟨?_,fun i j row x hi hj=>?_⟩
 ·rw[Array.size_append,size_zeroCells,hz,List.size_toArray,h1,← Nat.add_mul]
  exact Nat.mul_le_mul_right _ (by omega)
 ·obtain⟨u,h4,h5⟩:=h3 i j row x hi hj
  have:=(List.getElem?_eq_some_iff.1 h4).1
  exact⟨u,by rw[Array.getElem?_append_left (by simpa using this)]; simpa using h4,h5⟩
theorem evo_room{l es ver:Nat}{fz:Option Nat}{rows ys:List (List PV)}{news:List Value}(hs:StRel w g H)(hH:H[l]? = some (.arr es fz ver rows))(hes:∀ r ∈ ys,r.length = es)(hn:News w g.D es ys news)(hroom:rows.length + ys.length ≤ g.cap l):∃ vs e g',w.heap[g.blk l]? = some (.cells vs e (0,0))∧g.base l + rows.length * es + news.length ≤ vs.size ∧
  Evo w g H (w.setRow (g.blk l) (vs.toList.take (g.base l + rows.length * es)++news++vs.toList.drop (g.base l + rows.length * es + news.length)).toArray) g' (H.set l (.arr es fz (ver + 1) (rows++ys))) ∧
  StRel (w.setRow (g.blk l) (vs.toList.take (g.base l + rows.length * es)++news++vs.toList.drop (g.base l + rows.length * es + news.length)).toArray) g' (H.set l (.arr es fz (ver + 1) (rows++ys))) ∧
  g'.blk = g.blk∧g'.base = g.base∧g'.cap = g.cap:=by
 obtain⟨h1,h2,⟨vs,e,h3,h4⟩,h5,h6⟩:=hs.objs _ _ hH
 obtain⟨n1,n2,n3⟩:=hn
 have hlt:l < H.length:=(List.getElem?_eq_some_iff.1 hH).1
 have hm:(rows.length + ys.length) * es = rows.length * es + ys.length * es:=Nat.add_mul ..
 have hmc:(rows.length + ys.length) * es ≤ g.cap l * es:=Nat.mul_le_mul_right _ hroom
 have hfit:g.base l + rows.length * es + news.length ≤ vs.size:=by omega
 have hold:∀ i,g.D (g.blk l) i→i < g.base l + rows.length * es:=fun i hd=>by
  have:=hs.stand l _ hH
  cases fz with
  | none=>exact absurd hd (this i)
  | some f=>exact this.2 i hd
 have hfv:∀ f,fz = some f→f ≤ ver:=fun f hf=>by subst hf; exact (hs.stand l _ hH).1
 have ho:=setRow_only (D:=g.D) h3 (new_size hfit) (fun i hd=>by rw[new_get hfit,if_neg (by have:=hold i hd; omega)])
 let Q:Nat→Prop:=fun i=>fz.isSome = true∧g.base l + rows.length * es ≤ i∧i < g.base l + (rows.length + ys.length) * es
 let g':Gh:={ g with D:=fun b i=>g.D b i∨(b = g.blk l∧Q i) }
 have hD:∀ b i,g.D b i→g'.D b i:=fun _ _ h=>.inl h
 have hrows:∀ r ∈ rows++ys,r.length = es:=fun r hr=>by
  rcases List.mem_append.1 hr with h | h
  ·exact h2 r h
  ·exact hes r h
 have hcells:∀ (i j:Nat) (row:List PV) (x:PV),(rows++ys)[i]? = some row→row[j]? = some x→∃ c,cellAt (w.setRow (g.blk l) (vs.toList.take (g.base l + rows.length * es)++news++vs.toList.drop (g.base l + rows.length * es + news.length)).toArray) (g.blk l) (g.base l + i * es + j) = some c ∧
   RepP (w.setRow (g.blk l) (vs.toList.take (g.base l + rows.length * es)++news++vs.toList.drop (g.base l + rows.length * es + news.length)).toArray) g'.D c x:=fun i j row x hi hj=>by
  rw[cellAt_cells (setRow_heap w (g.blk l) vs _ e _ h3),new_get hfit]
  have hjl:j < es:=by rw[← hrows row (List.mem_of_getElem? hi)]; exact (List.getElem?_eq_some_iff.1 hj).1
  rw[List.getElem?_append]at hi
  split at hi
  ·rename_i hil
   have:=row_fit (es:=es) hil
   rw[if_neg (by omega)]
   obtain⟨c,e1,e2⟩:=h5 i j row x hi hj
   exact⟨c,by rw[← cellAt_cells h3]; exact e1,e2.mono hD ho.cells⟩
  ·rename_i hge
   have hil:i - rows.length < ys.length:=(List.getElem?_eq_some_iff.1 hi).1
   have:=row_fit (es:=es) hil
   have hmm:(i - rows.length) * es + rows.length * es = i * es:=by rw[← Nat.add_mul]; congr 1; omega
   obtain⟨u,e1,e2⟩:=n3 (i - rows.length) j row x hi hj
   rw[if_pos (by omega),show g.base l + i * es + j - (g.base l + rows.length * es) = (i - rows.length) * es + j by omega]
   exact⟨u,e1,e2.mono hD ho.cells⟩
 obtain⟨e1,e2⟩:=evo_obj (g':=g') (o':=.arr es fz (ver + 1) (rows++ys)) (Q:=Q) hs hH rfl rfl rfl (fun b i=>Iff.rfl) ho
  (.app hH (List.getElem?_set_self hlt) hfv) (fun _=>⟨by simpa using hroom,hrows,⟨_,e,setRow_heap w (g.blk l) vs _ e _ h3,by rw[new_size hfit]; exact h4⟩,hcells,fun i j hf hi hj=>by
   rw[List.length_append]at hi
   rcases Nat.lt_or_ge i rows.length with h | h
   ·exact .inl (h6 i j hf h hj)
   ·have:=row_fit (es:=es) hi
    have:=Nat.mul_le_mul_right es h
    exact .inr ⟨rfl,hf,by show g.base l + rows.length * es ≤ g.base l + i * es + j; omega,by show g.base l + i * es + j < _; omega⟩⟩) (by
   cases fz with
   | none =>
    intro i hd
    rcases hd with hd | ⟨_,hf,_⟩
    ·exact hs.stand l _ hH i hd
    ·cases hf
   | some f =>
    refine⟨Nat.le_succ_of_le (hfv f rfl),fun i hd=>?_⟩
    rw[List.length_append]
    show i < g.base l + (rows.length + ys.length) * es
    rcases hd with hd | ⟨_,_,_,hd⟩
    ·have:=hold i hd; omega
    ·exact hd)
 exact⟨vs,e,g',h3,hfit,e1,e2,rfl,rfl,rfl⟩
theorem evo_rows{l es ver off:Nat}{rows ys:List (List PV)}{news:List Value}(hs:StRel w g H)(hH:H[l]? = some (.arr es none ver rows))(hes:∀ r ∈ ys,r.length = es)(hn:News w g.D es ys news)(hin:off + ys.length ≤ rows.length):∃ vs e,w.heap[g.blk l]? = some (.cells vs e (0,0))∧g.base l + off * es + news.length ≤ vs.size ∧
  Evo w g H (w.setRow (g.blk l) (vs.toList.take (g.base l + off * es)++news++vs.toList.drop (g.base l + off * es + news.length)).toArray) g (H.set l (.arr es none ver (rows.take off++ys++rows.drop (off + ys.length)))) ∧
  StRel (w.setRow (g.blk l) (vs.toList.take (g.base l + off * es)++news++vs.toList.drop (g.base l + off * es + news.length)).toArray) g (H.set l (.arr es none ver (rows.take off++ys++rows.drop (off + ys.length)))):=by
 obtain⟨h1,h2,⟨vs,e,h3,h4⟩,h5,h6⟩:=hs.objs _ _ hH
 obtain⟨n1,n2,n3⟩:=hn
 have hlt:l < H.length:=(List.getElem?_eq_some_iff.1 hH).1
 have hm:(off + ys.length) * es = off * es + ys.length * es:=Nat.add_mul ..
 have hmc:(off + ys.length) * es ≤ g.cap l * es:=Nat.mul_le_mul_right _ (by omega)
 have hfit:g.base l + off * es + news.length ≤ vs.size:=by omega
 have hnoD:∀ i,¬ g.D (g.blk l) i:=hs.stand l _ hH
 have ho:=setRow_only (D:=g.D) h3 (new_size hfit) (fun i hd=>absurd hd (hnoD i))
 have hlen:(rows.take off++ys++rows.drop (off + ys.length)).length = rows.length:=by simp; omega
 have hmem:∀ r ∈ rows.take off++ys++rows.drop (off + ys.length),r.length = es:=fun r hr=>by
  rcases List.mem_append.1 hr with h | h
  ·rcases List.mem_append.1 h with h | h
   ·exact h2 r (List.mem_of_mem_take h)
   ·exact hes r h
  ·exact h2 r (List.mem_of_mem_drop h)
 refine⟨vs,e,h3,hfit,evo_obj (g':=g) (o':=.arr es none ver (rows.take off++ys++rows.drop (off + ys.length))) (Q:=fun _=>False) hs hH rfl rfl rfl (fun b i=>by simp) ho
  (.store hH (List.getElem?_set_self hlt) hlen rfl rfl rfl) (fun _=>⟨by rw[hlen]; exact h1,hmem,⟨_,e,setRow_heap w (g.blk l) vs _ e _ h3,by rw[new_size hfit]; exact h4⟩,fun i j r x hi hj=>?_,fun _ _ hf=>by cases hf⟩) hnoD⟩
 rw[cellAt_cells (setRow_heap w (g.blk l) vs _ e _ h3),new_get hfit]
 have hjl:j < es:=by rw[← hmem r (List.mem_of_getElem? hi)]; exact (List.getElem?_eq_some_iff.1 hj).1
 rw[seg_get hin]at hi
 by_cases hc:off ≤ i∧i < off + ys.length
 ·rw[if_pos hc]at hi
  have hil:i - off < ys.length:=by omega
  have:=row_fit (es:=es) hil
  have hmm:(i - off) * es + off * es = i * es:=by rw[← Nat.add_mul]; congr 1; omega
  obtain⟨u,e1,e2⟩:=n3 (i - off) j r x hi hj
  rw[if_pos (by omega),show g.base l + i * es + j - (g.base l + off * es) = (i - off) * es + j by omega]
  exact⟨u,e1,e2.mono (fun _ _ h=>h) ho.cells⟩
 ·rw[if_neg hc]at hi
  have hout:¬ (g.base l + off * es ≤ g.base l + i * es + j∧g.base l + i * es + j < g.base l + off * es + news.length):=by
   rcases Nat.lt_or_ge i off with h | h
   ·have:=row_fit (es:=es) h; omega
   ·have:=Nat.mul_le_mul_right es (show off + ys.length ≤ i by omega); omega
  rw[if_neg hout]
  obtain⟨c,e1,e2⟩:=h5 i j r x hi hj
  exact⟨c,by rw[← cellAt_cells h3]; exact e1,e2.mono (fun _ _ h=>h) ho.cells⟩
theorem ar_whole{w':World}{g':Gh}{H':List Obj}{l es ver:Nat}{fz:Option Nat}{rows:List (List PV)}(hs:StRel w' g' H')(hH:H'[l]? = some (.arr es fz ver rows)) :
  Rep w' g' H' (.slice (some ⟨g'.blk l,g'.base l,none⟩) rows.length (g'.cap l)) (.ar l ver 0 rows.length):=by
 obtain⟨h1,h2,_,h5,h6⟩:=hs.objs _ _ hH
 refine .ar ⟨h1,.inr ⟨_,_,rfl⟩,es,fz,ver,rows,hH,Nat.le_refl _,by omega,fun _=>⟨?_,fun _ _=>⟨rfl,rfl⟩,fun _=>by omega⟩⟩
 cases fz with
 | none=>intro _; simp
 | some f =>
  show RepP w' g'.D _ (.sl ((rows.drop 0).take rows.length))
  simp only[List.drop_zero,List.take_length]
  refine RepP.of_rows (es:=es) rfl h1 h2 (fun i j row x hi hj=>?_)
  have hjl:j < es:=by rw[← h2 row (List.mem_of_getElem? hi)]; exact (List.getElem?_eq_some_iff.1 hj).1
  exact⟨h6 i j rfl (List.getElem?_eq_some_iff.1 hi).1 hjl,h5 i j row x hi hj⟩
theorem all_rows{rows:List (List PV)}{es:Nat}(h:(rows.all fun r=>r.length == es) = true):∀ r ∈ rows,r.length = es:=all_len h
end
end Go.Proofs.YtchgldaddcolhaaGreatDoor
namespace Go.Proofs.YtchgldaddcolhaaGreatDoor
open Go
variable[Sub]
section
variable{P:Program}{w w':World}{g:Gh}{H:List Obj}
variable{a:Act}{dst:Option Tmp}{ty:TypeId}{pos:String}{after:Array Edge}{gd:Option (Nat×Bool)}
def NewsA(w:World)(g:Gh)(H:List Obj)(es:Nat)(ys:List (List AV))(news:List Value):Prop :=
 news.length = ys.length * es∧(∀ u ∈ news,u.oneCell' = true)∧∀ (i j:Nat) (row:List AV) (x:AV),ys[i]? = some row→row[j]? = some x→∃ u,news[i * es + j]? = some u∧Rep w g H u x
theorem newsA_of{es b o:Nat}{ys:List (List AV)}(hes:∀ r ∈ ys,r.length = es)(h:∀ (i j:Nat) (row:List AV) (x:AV),ys[i]? = some row→row[j]? = some x→∃ u,cellAt w b (o + i * es + j) = some u∧Rep w g H u x∧u.oneCell' = true) :
  ∃ news:List Value,NewsA w g H es ys news∧∀ k u,news[k]? = some u→w.cell? ((⟨b,o,none⟩:Addr).add k) = some u:=by
 have key:∀ k,k < ys.length * es→∃ u,cellAt w b (o + k) = some u∧u.oneCell' = true:=fun k hk=>by
  have he:0 < es:=by
   rcases Nat.eq_zero_or_pos es with h0 | h0
   ·rw[h0]at hk; simp at hk
   ·exact h0
  have hi:k / es < ys.length:=(Nat.div_lt_iff_lt_mul he).2 hk
  have hj:k % es < es:=Nat.mod_lt _ he
  have hrl:=hes ys[k / es] (List.getElem_mem hi)
  obtain⟨u,h1,_,h2⟩:=h (k / es) (k % es) ys[k / es] (ys[k / es][k % es]'(by omega)) (by simp[hi]) (by simp[hrl,hj])
  have hd:=Nat.div_add_mod k es
  rw[Nat.mul_comm]at hd
  exact⟨u,by rw[← h1]; congr 1; omega,h2⟩
 refine⟨(List.range (ys.length * es)).map fun k=>(cellAt w b (o + k)).getD undef,⟨by simp,fun u hu=>?_,fun i j row x hi hj=>?_⟩,fun k u hk=>?_⟩
 ·simp only[List.mem_map,List.mem_range]at hu
  obtain⟨k,hk,rfl⟩:=hu
  obtain⟨u,h1,h2⟩:=key k hk
  rw[h1]; exact h2
 ·obtain⟨u,h1,h2,_⟩:=h i j row x hi hj
  have hil:i < ys.length:=(List.getElem?_eq_some_iff.1 hi).1
  have hjl:j < es:=by rw[← hes row (List.mem_of_getElem? hi)]; exact (List.getElem?_eq_some_iff.1 hj).1
  have:=row_fit (es:=es) hil
  refine⟨u,?_,h2⟩
  rw[List.getElem?_map,List.getElem?_range (by omega)]
  simp only[Option.map_some,← Nat.add_assoc,h1,Option.getD_some]
 ·rw[List.getElem?_map,Option.map_eq_some_iff]at hk
  obtain⟨k',hk',rfl⟩:=hk
  obtain⟨hlt,rfl⟩:=List.getElem?_eq_some_iff.1 hk'
  simp only[List.length_range]at hlt
  simp only[List.getElem_range]
  obtain⟨u,h1,_⟩:=key k hlt
  rw[addr_add,h1]
  exact h1
theorem all_rowsA{rows:List (List AV)}{es:Nat}(h:(rows.all fun r=>r.length == es) = true):∀ r ∈ rows,r.length = es:=fun r hr=>by
 have:=List.all_eq_true.1 h r hr
 simpa using this
theorem newsA_arg{es:Nat}{c:Value}{v:AV}{ys:List (List AV)}(hs:StRel w g H)(h:Rep w g H c v)(hy:rowsA H v = some ys)(hes:∀ r ∈ ys,r.length = es) :
  ∃ p cap news,c = .slice p ys.length cap∧NewsA w g H es ys news∧((ys = []∧news = [])∨∃ ad,p = some ad∧∀ k u,news[k]? = some u→w.cell? (ad.add k) = some u):=by
 have plain:∀ rows:List (List PV),rowsOf H v = some rows→ys = rows.map (fun r=>r.map .p)→∃ p cap news,c = .slice p ys.length cap∧NewsA w g H es ys news∧((ys = []∧news = [])∨∃ ad,p = some ad∧∀ k u,news[k]? = some u→w.cell? (ad.add k) = some u):=fun rows hr e=>by
  subst e
  have hes':∀ r ∈ rows,r.length = es:=fun r hr=>by
   have:=hes _ (List.mem_map.2 ⟨r,hr,rfl⟩)
   simpa using this
  obtain⟨p,cap,news,h1,⟨n1,n2,n3⟩,h3⟩:=news_arg hs h hr hes'
  refine⟨p,cap,news,by simpa using h1,⟨by simpa using n1,n2,fun i j row x hi hj=>?_⟩,?_⟩
  ·rw[List.getElem?_map,Option.map_eq_some_iff]at hi
   obtain⟨r,hr',rfl⟩:=hi
   rw[List.getElem?_map,Option.map_eq_some_iff]at hj
   obtain⟨y,hy',rfl⟩:=hj
   obtain⟨u,e1,e2⟩:=n3 i j r y hr' hy'
   exact⟨u,e1,.p e2⟩
  ·rcases h3 with ⟨rfl,rfl⟩ | h3
   ·exact .inl ⟨rfl,rfl⟩
   ·exact .inr h3
 unfold rowsA at hy
 split at hy
 ·rename_i l v n
  split at hy
  ·rename_i es' ver lens rows hH
   split at hy
   ·rename_i hl
    cases hy
    have hm:=lvl_mem hl
    cases h with
    | sk hk =>
     obtain⟨h1,_,_,_,_,_,hH2,_,hf⟩:=hk
     rw[hH]at hH2
     cases hH2
     obtain⟨rfl,rfl⟩:=hf hm
     obtain⟨_,hes',h3⟩:=hs.objs _ _ hH
     obtain⟨_,hnr,_,_,_,a7⟩:=h3 _ _ hm
     have hlen:(rows.take n).length = n:=by simp; omega
     rw[hlen]
     rcases Nat.eq_zero_or_pos n with rfl | hpos
     ·exact⟨_,_,[],rfl,⟨by simp,by simp,fun i j row x h=>by simp at h⟩,.inl ⟨by simp,rfl⟩⟩
     ·obtain⟨news,q1,q2⟩:=newsA_of (w:=w) (g:=g) (H:=H) (es:=es) (b:=(g.kin l).sb v) (o:=0) hes (fun i j row x hi hj=>by
       have hi':rows[i]? = some row∧i < n:=by
        rw[List.getElem?_take]at hi
        split at hi
        ·exact⟨hi,by assumption⟩
        ·cases hi
       have he:es' = es:=by rw[← hes row (List.mem_of_getElem? hi),hes' row (List.mem_of_getElem? hi'.1)]
       obtain⟨c,c1,c2,c3⟩:=a7 i j row x hi'.2 hi'.1 hj
       exact⟨c,by rw[Nat.zero_add,← he]; exact c1,c2,c3⟩)
      exact⟨_,_,news,rfl,q1,.inr ⟨_,rfl,q2⟩⟩
   ·cases hy
  ·cases hy
 ·rename_i hne
  simp only[Option.map_eq_some_iff]at hy
  obtain⟨rows,hr,rfl⟩:=hy
  exact plain rows hr rfl
theorem sim_newK{o:Oper}{vs:Array Value}{e:TypeId}{es cap:Nat}{rows:List (List AV)}(hs:StRel w g H)(hr:(execOp a.eval o).run P w = .ok (.value (.slice (some ⟨w.heap.size,0,none⟩) rows.length cap)) w')(hp:Pushed w w' (.cells vs e (0,0)))(hcap:rows.length ≤ cap)(hes:∀ r ∈ rows,r.length = es)(hsz:cap * es ≤ vs.size)(hcs:∀ (i j:Nat) (row:List AV) (x:AV),rows[i]? = some row→row[j]? = some x→∃ c,vs[i * es + j]? = some c∧Rep w g H c x∧c.oneCell' = true) :
  OpSim P a w g H o (.sk H.length 0 rows.length) (H++[.stk es 1 [(0,rows.length)] rows]):=by
 have hN:(∀ c a,Rep w g H c a→Rep w' (g.add H.length w.heap.size 0 cap) (H++[.stk es 1 [(0,rows.length)] rows]) c a)→ObjRel w' (g.add H.length w.heap.size 0 cap) (H++[.stk es 1 [(0,rows.length)] rows]) H.length (.stk es 1 [(0,rows.length)] rows):=fun hrep=>by
  refine⟨⟨vs,e,by rw[Gh.add_eq.1]; exact hp.new,Nat.zero_lt_one⟩,hes,fun v n hm=>?_⟩
  simp only[List.mem_singleton,Prod.mk.injEq]at hm
  obtain⟨rfl,rfl⟩:=hm
  rw[Gh.add_kin_eq]
  refine⟨by omega,Nat.le_refl _,hcap,Gh.add_has_eq.2 rfl,⟨vs,e,hp.new,hsz⟩,fun i j row x _ hi hj=>?_⟩
  obtain⟨c,c1,c2,c3⟩:=hcs i j row x hi hj
  exact⟨c,by show cellAt w' w.heap.size _ = _; rw[cellAt_cells hp.new]; exact c1,hrep _ _ c2,c3⟩
 obtain⟨e1,e2⟩:=evo_new (cap:=cap) (o:=.stk es 1 [(0,rows.length)] rows) hp hs (fun _ _ _ _ h=>by cases h) hN
 refine⟨_,w',_,.inl hr,e1,e2,.inr (.sk ⟨hcap,.inr ⟨_,_,rfl⟩,es,1,[(0,rows.length)],rows,by simp,by omega,fun _=>?_⟩)⟩
 rw[Gh.add_kin_eq]
 exact⟨rfl,rfl⟩
def Gh.ver(g:Gh)(l v b c:Nat)(E:Nat→Prop):Gh :=
 { g with kin:=fun k=>if k = l then ⟨fun x=>(g.kin l).ext x∨E x,fun u=>if u = v then b else (g.kin l).sb u,fun u=>if u = v then c else (g.kin l).sc u⟩ else g.kin k }
theorem Gh.ver_ne{g:Gh}{l v b c k:Nat}{E:Nat→Prop}(h:k ≠ l):(g.ver l v b c E).kin k = g.kin k:=by simp[Gh.ver,h]
theorem Gh.ver_sb{g:Gh}{l v b c u:Nat}{E:Nat→Prop}:((g.ver l v b c E).kin l).sb u = if u = v then b else (g.kin l).sb u:=by simp[Gh.ver]
theorem Gh.ver_sc{g:Gh}{l v b c u:Nat}{E:Nat→Prop}:((g.ver l v b c E).kin l).sc u = if u = v then c else (g.kin l).sc u:=by simp[Gh.ver]
theorem Gh.ver_ext{g:Gh}{l v b c x:Nat}{E:Nat→Prop}:((g.ver l v b c E).kin l).ext x↔(g.kin l).ext x∨E x:=by simp[Gh.ver]
theorem Gh.ver_has{g:Gh}{l v b c k x:Nat}{E:Nat→Prop}(h:k ≠ l):(g.ver l v b c E).Has k x↔g.Has k x:=by simp[Gh.ver,Gh.Has,h]
theorem Gh.ver_hasl{g:Gh}{l v b c x:Nat}{E:Nat→Prop}:(g.ver l v b c E).Has l x↔g.Has l x∨E x:=by simp[Gh.ver,Gh.Has,or_assoc]
theorem evo_stack{l es ver v n b cap:Nat}{lens:List (Nat×Nat)}{rows ys:List (List AV)}{E:Nat→Prop}(hs:StRel w g H)(hH:H[l]? = some (.stk es ver lens rows))(hm:(v,n) ∈ lens)(hes:∀ r ∈ ys,r.length = es)(hE:∀ x,E x→x = w.heap.size)(hEs:∀ x,E x→x < w'.heap.size)(hsize:w.heap.size ≤ w'.heap.size)(hos:w'.os = w.os)(hout:w'.output = w.output)(htp:w'.tape = w.tape∧w.drawn ≤ w'.drawn)(hold:∀ x,x < w.heap.size→¬ g.Has l x→w'.heap[x]? = w.heap[x]?)(hcs:∀ x,g.Has l x→∀ vs e,w.heap[x]? = some (.cells vs e (0,0))→∃ vs',w'.heap[x]? = some (.cells vs' e (0,0))∧vs'.size = vs.size∧∀ i,(x ≠ b∨i < n * es)→vs'[i]? = vs[i]?)(hno:∀ x,g.Has l x→w.heap[x]? = none∨(∃ vs e,w.heap[x]? = some (.cells vs e (0,0)))∨w'.heap[x]? = w.heap[x]?)(hb:g.Has l b∨E b)(hcap:n + ys.length ≤ cap)(hbv:∃ vs e,w'.heap[b]? = some (.cells vs e (0,0))∧cap * es ≤ vs.size)(hnew:∀ (i j:Nat) (row:List AV) (x:AV),(rows.take n++ys)[i]? = some row→row[j]? = some x→∃ c,cellAt w' b (i * es + j) = some c∧Rep w g H c x∧c.oneCell' = true) :
  Evo w g H w' (g.ver l ver b cap E) (H.set l (.stk es (ver + 1) ((lens.filter fun p=>decide (p.2 ≤ n))++[(ver,n + ys.length)]) (rows.take n++ys))) ∧
  StRel w' (g.ver l ver b cap E) (H.set l (.stk es (ver + 1) ((lens.filter fun p=>decide (p.2 ≤ n))++[(ver,n + ys.length)]) (rows.take n++ys))):=by
 have hlt:l < H.length:=(List.getElem?_eq_some_iff.1 hH).1
 obtain⟨⟨vs0,e0,hb0,_⟩,hes0,h3⟩:=hs.objs _ _ hH
 obtain⟨hvv,hnr,_⟩:=h3 _ _ hm
 have hnoD:∀ x i,g.Has l x→¬ g.D x i:=fun x i hx hd=>by
  rcases hx with rfl | hx
  ·exact hs.stand l _ hH i hd
  ·exact (hs.ext l x hlt hx).2.2 i hd
 have hcell:∀ x i,g.D x i→cellAt w' x i = cellAt w x i:=fun x i hd=>cellAt_heap (hold x (hs.dom x i hd) fun hx=>hnoD x i hx hd) i
 have hset:∀ k,k ≠ l→(H.set l (.stk es (ver + 1) ((lens.filter fun p=>decide (p.2 ≤ n))++[(ver,n + ys.length)]) (rows.take n++ys)))[k]? = H[k]?:=fun k hk=>List.getElem?_set_ne (Ne.symm hk)
 have hself:(H.set l (.stk es (ver + 1) ((lens.filter fun p=>decide (p.2 ≤ n))++[(ver,n + ys.length)]) (rows.take n++ys)))[l]? = some (.stk es (ver + 1) ((lens.filter fun p=>decide (p.2 ≤ n))++[(ver,n + ys.length)]) (rows.take n++ys)):=List.getElem?_set_self hlt
 have hlens:∀ u m,(u,m) ∈ (lens.filter fun p=>decide (p.2 ≤ n))++[(ver,n + ys.length)]→((u,m) ∈ lens∧m ≤ n)∨(u = ver∧m = n + ys.length):=fun u m h=>by
  rcases List.mem_append.1 h with h | h
  ·rw[List.mem_filter]at h
   exact .inl ⟨h.1,by simpa using h.2⟩
  ·simp only[List.mem_singleton,Prod.mk.injEq]at h
   exact .inr h
 have hr:∀ c a,Rep w g H c a→Rep w' (g.ver l ver b cap E) (H.set l (.stk es (ver + 1) ((lens.filter fun p=>decide (p.2 ≤ n))++[(ver,n + ys.length)]) (rows.take n++ys))) c a:=fun c a h =>
  h.step (w:=w) (g:=g) (g':=g.ver l ver b cap E) (H':=H.set l (.stk es (ver + 1) ((lens.filter fun p=>decide (p.2 ≤ n))++[(ver,n + ys.length)]) (rows.take n++ys))) (fun _ _ h=>h) hcell (fun k ok hk=>by
   by_cases e:k = l
   ·subst e
    refine .stk hH hself (Nat.le_succ _) (fun u m hu hlt'=>?_)
    rcases hlens u m hu with ⟨h1,_⟩ | ⟨h1,_⟩
    ·exact⟨h1,by rw[Gh.ver_sb,if_neg (by omega)],by rw[Gh.ver_sc,if_neg (by omega)]⟩
    ·omega
   ·exact .same (hset k e) rfl rfl rfl (Gh.ver_ne e))
 have hlen:(H.set l (.stk es (ver + 1) ((lens.filter fun p=>decide (p.2 ≤ n))++[(ver,n + ys.length)]) (rows.take n++ys))).length = H.length:=List.length_set
 have hmem:∀ r ∈ rows.take n++ys,r.length = es:=fun r h=>by
  rcases List.mem_append.1 h with h | h
  ·exact hes0 r (List.mem_of_mem_take h)
  ·exact hes r h
 refine⟨⟨fun _ _ h=>h,hcell,hr,⟨hos,hout,htp,hsize,fun x hx=>?_⟩,fun x i h=>?_,fun _ _ h=>.inl h,rfl⟩,⟨fun k ok hk=>?_,fun k m hk hm' x e1 e2=>?_,fun k ok hk=>?_,fun x i hd=>?_,fun k x hk he=>?_,hs.glob.step (fun _ _ h=>h) hcell⟩⟩
 ·by_cases hx2:g.Has l x
  ·rcases hno x hx2 with h | ⟨vs,e,h⟩ | h
   ·rw[Array.getElem?_eq_none_iff]at h; omega
   ·rw[h]
    obtain⟨vs',h1,h2,_⟩:=hcs x hx2 vs e h
    refine⟨vs',h1,h2,fun i hi=>absurd ⟨⟨l,hlt,hx2⟩,hnoD x i hx2⟩ hi⟩
   ·split
    ·rename_i vs e f hw; exact⟨vs,by rw[h]; exact hw,rfl,fun _ _=>rfl⟩
    ·intro _; exact h
  ·have h:=hold x hx hx2
   split
   ·rename_i vs e f hw; exact⟨vs,by rw[h]; exact hw,rfl,fun _ _=>rfl⟩
   ·intro _; exact h
 ·obtain⟨⟨k,hk,hx⟩,hd⟩:=h
  rw[hlen]at hk
  by_cases e:k = l
  ·subst e
   rcases Gh.ver_hasl.1 hx with h | h
   ·exact .inl ⟨⟨k,hk,h⟩,hd⟩
   ·exact .inr (by rw[hE x h]; exact Nat.le_refl _)
  ·exact .inl ⟨⟨k,hk,(Gh.ver_has e).1 hx⟩,hd⟩
 ·by_cases e:k = l
  ·subst e
   rw[hself]at hk
   cases hk
   obtain⟨vs0',hb1,_⟩:=hcs _ (.inl rfl) _ _ hb0
   refine⟨⟨vs0',e0,hb1,Nat.succ_pos _⟩,hmem,fun u m hu=>?_⟩
   have hl1:(rows.take n++ys).length = n + ys.length:=by simp; omega
   rw[Gh.ver_sb,Gh.ver_sc,hl1]
   rcases hlens u m hu with ⟨h1,h2⟩ | ⟨rfl,rfl⟩
   ·obtain⟨a1,a2,a3,a4,⟨vs,e,a5,a6⟩,a7⟩:=h3 u m h1
    rw[if_neg (by omega),if_neg (by omega)]
    obtain⟨vs',c1,c2,c3⟩:=hcs _ a4 _ _ a5
    refine⟨by omega,by omega,a3,Gh.ver_hasl.2 (.inl a4),⟨vs',e,c1,by rw[c2]; exact a6⟩,fun i j row x hi hir hj=>?_⟩
    have hir':rows[i]? = some row:=by
     rw[List.getElem?_append_left (by simp; omega),List.getElem?_take,if_pos (by omega)]at hir
     exact hir
    obtain⟨c,d1,d2,d3⟩:=a7 i j row x hi hir' hj
    have hjl:j < es:=by rw[← hes0 row (List.mem_of_getElem? hir')]; exact (List.getElem?_eq_some_iff.1 hj).1
    have:=row_fit (es:=es) (show i < n by omega)
    refine⟨c,?_,hr _ _ d2,d3⟩
    rw[cellAt_cells c1,c3 _ (.inr (by omega)),← cellAt_cells a5]
    exact d1
   ·rw[if_pos rfl,if_pos rfl]
    refine⟨by omega,Nat.le_refl _,hcap,Gh.ver_hasl.2 hb,hbv,fun i j row x _ hir hj=>?_⟩
    obtain⟨c,d1,d2,d3⟩:=hnew i j row x hir hj
    exact⟨c,d1,hr _ _ d2,d3⟩
  ·rw[hset k e]at hk
   have hkl:k < H.length:=(List.getElem?_eq_some_iff.1 hk).1
   exact (hs.objs k ok hk).keep rfl rfl rfl (fun x hx=>hold x (hs.has_lt hkl hx) fun h=>e (hs.inj2 k l hkl hlt x hx h)) (fun _ _ h=>h) hcell hr rfl (Gh.ver_ne e)
 ·rw[hlen]at hk hm'
  have key:∀ k,k < H.length→k ≠ l→g.Has k x→(g.ver l ver b cap E).Has l x→False:=fun k hk hkl h1 h2=>by
   rcases Gh.ver_hasl.1 h2 with h | h
   ·exact hkl (hs.inj2 k l hk hlt x h1 h)
   ·have:=hs.has_lt hk h1; have:=hE x h; omega
  by_cases e3:k = l <;> by_cases e4:m = l
  ·omega
  ·subst e3; exact (key m hm' e4 ((Gh.ver_has e4).1 e2) e1).elim
  ·subst e4; exact (key k hk e3 ((Gh.ver_has e3).1 e1) e2).elim
  ·exact hs.inj2 k m hk hm' x ((Gh.ver_has e3).1 e1) ((Gh.ver_has e4).1 e2)
 ·by_cases e:k = l
  ·subst e
   rw[hself]at hk
   cases hk
   exact fun i hd=>hs.stand k _ hH i hd
  ·rw[hset k e]at hk
   exact (hs.stand k ok hk).keep rfl rfl (fun _ h=>h)
 ·have:=hs.dom x i hd; omega
 ·rw[hlen]at hk
  by_cases e:k = l
  ·subst e
   rcases Gh.ver_ext.1 he with h | h
   ·obtain⟨q1,q2,q3⟩:=hs.ext k x hk h
    exact⟨by omega,q2,q3⟩
   ·have hx:=hE x h
    refine⟨hEs x h,fun e=>?_,fun i hd=>?_⟩
    ·have:=IsBlk.lt hs hk
     have e:x = g.blk k:=e
     omega
    ·have:=hs.dom x i hd; omega
  ·rw[Gh.ver_ne e]at he
   obtain⟨q1,q2,q3⟩:=hs.ext k x hk he
   exact⟨by omega,q2,q3⟩
theorem sim_appendK{c:Call}{x y:Operand}{t e:TypeId}{i:TypeInfo}{z:Value}{u v r:AV}{H':List Obj}(hs:StRel w g H)(hc:c.callee = .builtin .append)(ha:c.args.toList = [x,y])(hat:c.argTypes.toList = [t,t])(ht:P.underlying t = some (.slice e))(hi:P.info? e = some i)(hz:i.zero = some z)(hzs:z.cells.size = i.size)(hb:i.bytes ≠ 0)(hx:Rep w g H (a.eval x) u)(hy:Rep w g H (a.eval y) v)(h:appendK H i.bytes i.size u v = some (r,H')):OpSim P a w g H ⟨dst,.call c,ty,pos,after,gd⟩ r H':=by
 have hcall:=run_append_call (P:=P) (a:=a) (dst:=dst) (ty:=ty) (pos:=pos) (after:=after) (gd:=gd) (w:=w) hc ha hat
 unfold appendK at h
 simp only[Option.bind_eq_some_iff]at h
 obtain⟨ys,hys,h⟩:=h
 split at h
 case isFalse=>cases h
 rename_i hall
 have hes:=all_rowsA hall
 obtain⟨py,cy,news,hcy,hnews,harg⟩:=newsA_arg hs hy hys hes
 have h63:∀ n:Nat,n * i.bytes ≤ 140737488355328→(n:Int) ≤ 9223372036854775807:=fun n hn=>by
  have:n * 1 ≤ n * i.bytes:=Nat.mul_le_mul_left _ (by omega)
  omega
 obtain⟨n1,n2,n3⟩:=hnews
 have grown:∀ cap,ys.length ≤ cap→cap * i.size ≤ (news.toArray++Builtin.zeroCells z.cells (cap - ys.length)).size∧∀ (i' j:Nat) (row:List AV) (x:AV),ys[i']? = some row→row[j]? = some x →
   ∃ c,(news.toArray++Builtin.zeroCells z.cells (cap - ys.length))[i' * i.size + j]? = some c∧Rep w g H c x∧c.oneCell' = true:=fun cap hcap=>by
  refine⟨?_,fun i' j row x hi' hj=>?_⟩
  ·rw[Array.size_append,size_zeroCells,hzs,List.size_toArray,n1,← Nat.add_mul]
   exact Nat.mul_le_mul_right _ (by omega)
  ·obtain⟨u,h4,h5⟩:=n3 i' j row x hi' hj
   have:=(List.getElem?_eq_some_iff.1 h4).1
   exact⟨u,by rw[Array.getElem?_append_left (by simpa using this)]; simpa using h4,h5,n2 u (List.mem_of_getElem? h4)⟩
 have fromZero:∀ q,AddrOk q 0→a.eval x = .slice q 0 0→ys.isEmpty = false→ys.length * i.bytes ≤ 140737488355328→OpSim P a w g H ⟨dst,.call c,ty,pos,after,gd⟩ (.sk H.length 0 ys.length) (H++[.stk i.size 1 [(0,ys.length)] ys]):=fun q hq hxv hne hbd=>by
  rcases harg with ⟨rfl,_⟩ | ⟨ad,rfl,hcell⟩
  ·simp at hne
  have hpos:0 < ys.length:=by cases ys <;> simp at hne ⊢
  rcases hq with ⟨rfl,_⟩ | ⟨b0,o0,rfl⟩
  ·have hr:=run_append_nil (P:=P) w t ty e i z ht hi hz ad ys.length cy news n1 hcell hpos (h63 _ hbd) (by omega)
   have hge:=grownCap_ge w ys.length 0 e
   obtain⟨q1,q2⟩:=grown _ hge
   exact sim_newK (w':=w.drew.alloc (.cells (news.toArray++Builtin.zeroCells z.cells (grownCap w ys.length 0 e - ys.length)) e)) (cap:=grownCap w ys.length 0 e) hs (by rw[hcall,hxv,hcy,hr]; rfl) ⟨rfl,rfl,rfl,⟨rfl,by first | exact Nat.le_refl _ | exact Nat.le_succ _⟩⟩ hge hes q1 q2
  ·have hr:=run_append_grow (P:=P) w t ty e i z ht hi hz ⟨b0,o0,none⟩ 0 0 [] (by simp) (by simp) ad ys.length cy news n1 hcell (by omega) (h63 _ (by rw[Nat.zero_add]; exact hbd)) (growslice_fits (by omega) (by rw[Nat.zero_add]; exact hbd))
   have hge:=grownCap_ge w (0 + ys.length) 0 e
   rw[Nat.zero_add]at hge hr
   obtain⟨q1,q2⟩:=grown _ hge
   exact sim_newK (w':=w.drew.alloc (.cells (news.toArray++Builtin.zeroCells z.cells (grownCap w ys.length 0 e - ys.length)) e)) (cap:=grownCap w ys.length 0 e) hs (by rw[hcall,hxv,hcy,hr]; simp) ⟨rfl,rfl,rfl,⟨rfl,by first | exact Nat.le_refl _ | exact Nat.le_succ _⟩⟩ hge hes q1 q2
 have stays:∀ q n cap,a.eval x = .slice q n cap→n ≤ cap→ys.isEmpty = true→(execOp a.eval ⟨dst,.call c,ty,pos,after,gd⟩).run P w = .ok (.value (a.eval x)) w:=fun q n cap hxv hle hemp=>by
  have:ys = []:=by simpa using hemp
  subst this
  rw[hcall,hxv,hcy,List.length_nil,run_append_empty ht hi hle]; rfl
 generalize hxv:a.eval x = cv at hx
 split at h
 ·
  cases hx with
  | nk hq =>
   split at h
   ·rename_i hemp
    cases h
    exact .quiet hs (stays _ _ _ hxv (Nat.le_refl _) hemp) (by rw[hxv]; exact .nk hq)
   ·rename_i hemp
    split at h
    ·rename_i hbd
     cases h
     exact fromZero _ hq hxv (by simpa using hemp) hbd
    ·cases h
 ·
  cases hx with
  | p hp =>
   cases hp
   split at h
   ·rename_i hemp
    cases h
    exact .quiet hs (stays _ _ _ hxv (Nat.le_refl _) hemp) (by rw[hxv]; exact .p .nsl)
   ·rename_i hemp
    split at h
    ·rename_i hbd
     cases h
     exact fromZero _ (.inl ⟨rfl,rfl⟩) hxv (by simpa using hemp) hbd
    ·cases h
 ·
  cases hx with
  | @lit q n _ hp =>
   have hn0:n = 0∧AddrOk q 0:=by
    cases hp with
    | nil=>exact⟨rfl,.inl ⟨rfl,rfl⟩⟩
    | sl cs hn=>exact⟨by simpa using hn.symm,.inr ⟨_,_,rfl⟩⟩
   obtain⟨rfl,hq⟩:=hn0
   split at h
   ·rename_i hemp
    cases h
    exact .quiet hs (stays _ _ _ hxv (Nat.le_refl _) hemp) (by rw[hxv]; exact .lit hp)
   ·rename_i hemp
    split at h
    ·rename_i hbd
     cases h
     exact fromZero _ hq hxv (by simpa using hemp) hbd
    ·cases h
 ·
  rename_i l v0 n
  cases hx with
  | @sk _ _ _ cap q hk =>
   split at h
   case h_2=>cases h
   rename_i es' ver lens rows hH
   split at h
   case isFalse=>cases h
   rename_i hcond
   obtain⟨hlv,rfl,hnr,hemp,hbd⟩:=hcond
   cases h
   have hm:=lvl_mem hlv
   obtain⟨hle,_,_,_,_,_,hH2,hvv,hf⟩:=hk
   rw[hH]at hH2
   cases hH2
   obtain⟨rfl,rfl⟩:=hf hm
   obtain⟨⟨vs0,e0,hb0⟩,hes0,h3⟩:=hs.objs _ _ hH
   obtain⟨_,_,_,hHas,⟨vs,eb,hvs,hfit⟩,a7⟩:=h3 _ _ hm
   rcases harg with ⟨rfl,_⟩ | ⟨ad,rfl,hcell⟩
   ·simp at hemp
   have hpos:0 < ys.length:=by cases ys <;> simp at hemp ⊢
   have hlt:l < H.length:=(List.getElem?_eq_some_iff.1 hH).1
   have hbl:(g.kin l).sb v0 < w.heap.size:=hs.has_lt hlt hHas
   have hrl:(rows.take n).length = n:=by simp; omega
   have hnes:∀ row ∈ rows.take n,row.length = i.size:=fun r hr=>hes0 r (List.mem_of_mem_take hr)
   have htk:∀ (i':Nat) (row:List AV),(rows.take n)[i']? = some row→i' < n∧rows[i']? = some row:=fun i' row h=>by
    rw[List.getElem?_take]at h
    split at h
    ·exact⟨by assumption,h⟩
    ·cases h
   obtain⟨olds,⟨o1,o2,o3⟩,oc⟩:=newsA_of (w:=w) (g:=g) (H:=H) (es:=i.size) (b:=(g.kin l).sb v0) (o:=0) hnes (fun i' j row x hi' hj=>by
    obtain⟨k1,k2⟩:=htk i' row hi'
    rw[Nat.zero_add]
    exact a7 i' j row x k1 k2 hj)
   rw[hrl]at o1
   have hsz:(n + ys.length) * i.size = n * i.size + ys.length * i.size:=Nat.add_mul ..
   by_cases hroom:n + ys.length ≤ (g.kin l).sc v0
   ·
    have hmc:(n + ys.length) * i.size ≤ (g.kin l).sc v0 * i.size:=Nat.mul_le_mul_right _ hroom
    have hfit2:0 + n * i.size + news.length ≤ vs.size:=by omega
    have hr:=run_append_room' (P:=P) (w:=w) (ty:=ty) ht hi (b:=(g.kin l).sb v0) (o:=0) (sLen:=n) (sCap:=(g.kin l).sc v0) (m:=ys.length) (c:=cy) hvs (firstCells_news (w:=w) (P:=P) n1 (.inr ⟨ad,rfl,hcell⟩)) n2 hroom hfit2
    have hnv:=setRow_heap w ((g.kin l).sb v0) vs (vs.toList.take (0 + n * i.size)++news++vs.toList.drop (0 + n * i.size + news.length)).toArray eb _ hvs
    have hget:∀ k,((vs.toList.take (0 + n * i.size)++news++vs.toList.drop (0 + n * i.size + news.length)).toArray)[k]? = if 0 + n * i.size ≤ k∧k < 0 + n * i.size + news.length then news[k - (0 + n * i.size)]? else vs[k]?:=new_get hfit2
    obtain⟨e1,e2⟩:=evo_stack (w:=w) (w':=w.setRow ((g.kin l).sb v0) (vs.toList.take (0 + n * i.size)++news++vs.toList.drop (0 + n * i.size + news.length)).toArray) (E:=fun _=>False) (b:=(g.kin l).sb v0) (cap:=(g.kin l).sc v0) hs hH hm hes
     (fun _ h=>h.elim) (fun _ h=>h.elim) (by rw[setRow_size]; exact Nat.le_refl _) rfl rfl ⟨rfl,Nat.le_refl _⟩ (fun x _ hx=>setRow_other w _ x _ fun e=>hx (e ▸ hHas))
     (fun x hx ws we hw=>by
      by_cases e:x = (g.kin l).sb v0
      ·subst e
       rw[hvs]at hw
       cases hw
       refine⟨_,hnv,new_size hfit2,fun k hk=>?_⟩
       rw[hget k,if_neg]
       rintro⟨k1,_⟩
       rcases hk with hk | hk
       ·exact hk rfl
       ·omega
      ·exact⟨ws,by rw[setRow_other w _ x _ e]; exact hw,rfl,fun _ _=>rfl⟩)
     (fun x hx=>by
      by_cases e:x = (g.kin l).sb v0
      ·subst e; exact .inr (.inl ⟨vs,eb,hvs⟩)
      ·exact .inr (.inr (setRow_other w _ x _ e)))
     (.inl hHas) hroom ⟨_,eb,hnv,by rw[new_size hfit2]; exact hfit⟩
     (fun i' j row x hi' hj=>by
      rw[cellAt_cells hnv,hget]
      rw[List.getElem?_append,hrl]at hi'
      split at hi'
      ·rename_i hin
       obtain⟨k1,k2⟩:=htk i' row hi'
       have hjl:j < i.size:=by rw[← hes0 row (List.mem_of_getElem? k2)]; exact (List.getElem?_eq_some_iff.1 hj).1
       have:=row_fit (es:=i.size) hin
       rw[if_neg (by omega),← cellAt_cells hvs]
       exact a7 i' j row x k1 k2 hj
      ·rename_i hin
       have hil:i' - n < ys.length:=(List.getElem?_eq_some_iff.1 hi').1
       have hjl:j < i.size:=by rw[← hes row (List.mem_of_getElem? hi')]; exact (List.getElem?_eq_some_iff.1 hj).1
       have hff:=row_fit (es:=i.size) hil
       have hmm:(i' - n) * i.size + n * i.size = i' * i.size:=by rw[← Nat.add_mul]; congr 1; omega
       obtain⟨u,d1,d2⟩:=n3 (i' - n) j row x hi' hj
       rw[if_pos (by omega),show i' * i.size + j - (0 + n * i.size) = (i' - n) * i.size + j by omega]
       exact⟨u,d1,d2,n2 u (List.mem_of_getElem? d1)⟩)
    refine⟨_,_,_,.inl (by rw[hcall,hxv,hcy,hr]; rfl),e1,e2,.inr (.sk ⟨hroom,.inr ⟨_,_,rfl⟩,_,_,_,_,List.getElem?_set_self hlt,Nat.lt_succ_self _,fun _=>?_⟩)⟩
    rw[Gh.ver_sb,Gh.ver_sc,if_pos rfl,if_pos rfl]
    exact⟨rfl,rfl⟩
   ·
    have hbd':(n + ys.length) * i.bytes ≤ 140737488355328:=hbd
    have hr:=run_append_grow (P:=P) w t ty e i z ht hi hz ⟨(g.kin l).sb v0,0,none⟩ n ((g.kin l).sc v0) olds o1 oc ad ys.length cy news n1 hcell (by omega) (h63 _ hbd') (growslice_fits (by omega) hbd')
    have hge:=grownCap_ge w (n + ys.length) ((g.kin l).sc v0) e
    generalize hcap:grownCap w (n + ys.length) ((g.kin l).sc v0) e = cap at hr hge
    have hpush:Pushed w (w.drew.alloc (.cells (olds.toArray++news.toArray++Builtin.zeroCells z.cells (cap - (n + ys.length))) e)) (.cells (olds.toArray++news.toArray++Builtin.zeroCells z.cells (cap - (n + ys.length))) e (0,0)):=⟨rfl,rfl,rfl,⟨rfl,Nat.le_succ _⟩⟩
    have hasz:∀ x,g.Has l x→x < w.heap.size:=fun x hx=>hs.has_lt hlt hx
    have hvsz:(olds.toArray++news.toArray++Builtin.zeroCells z.cells (cap - (n + ys.length))).size = cap * i.size:=by
     rw[Array.size_append,Array.size_append,size_zeroCells,hzs,List.size_toArray,List.size_toArray,o1,n1,← Nat.add_mul,← Nat.add_mul]
     congr 1; omega
    obtain⟨e1,e2⟩:=evo_stack (w:=w) (w':=w.drew.alloc (.cells (olds.toArray++news.toArray++Builtin.zeroCells z.cells (cap - (n + ys.length))) e)) (E:=fun x=>x = w.heap.size) (b:=w.heap.size) (cap:=cap) hs hH hm hes
     (fun _ h=>h) (fun _ h=>by rw[h,hpush.size]; omega) (by rw[hpush.size]; omega) rfl rfl ⟨rfl,Nat.le_succ _⟩ (fun x hx _=>hpush.old hx)
     (fun x hx ws we hw=>⟨ws,by rw[hpush.old (hasz x hx)]; exact hw,rfl,fun _ _=>rfl⟩) (fun x hx=>.inr (.inr (hpush.old (hasz x hx))))
     (.inr rfl) hge ⟨_,e,hpush.new,by rw[hvsz]; exact Nat.le_refl _⟩
     (fun i' j row x hi' hj=>by
      rw[cellAt_cells hpush.new]
      rw[List.getElem?_append,hrl]at hi'
      split at hi'
      ·rename_i hin
       obtain⟨k1,k2⟩:=htk i' row hi'
       obtain⟨u,d1,d2⟩:=o3 i' j row x hi' hj
       have hlt2:=(List.getElem?_eq_some_iff.1 d1).1
       refine⟨u,?_,d2,o2 u (List.mem_of_getElem? d1)⟩
       rw[Array.getElem?_append_left (by simp; omega),Array.getElem?_append_left (by simpa using hlt2)]
       simpa using d1
      ·rename_i hin
       have hmm:(i' - n) * i.size + n * i.size = i' * i.size:=by rw[← Nat.add_mul]; congr 1; omega
       obtain⟨u,d1,d2⟩:=n3 (i' - n) j row x hi' hj
       have hlt2:=(List.getElem?_eq_some_iff.1 d1).1
       refine⟨u,?_,d2,n2 u (List.mem_of_getElem? d1)⟩
       rw[Array.getElem?_append_left (by simp; omega),Array.getElem?_append_right (by simp; omega)]
       simp only[List.size_toArray,o1,List.getElem?_toArray]
       rw[show i' * i.size + j - n * i.size = (i' - n) * i.size + j by omega]
       exact d1)
    refine⟨_,_,_,.inl (by rw[hcall,hxv,hcy,hr]; rfl),e1,e2,.inr (.sk ⟨hge,.inr ⟨_,_,rfl⟩,_,_,_,_,List.getElem?_set_self hlt,Nat.lt_succ_self _,fun _=>?_⟩)⟩
    rw[Gh.ver_sb,Gh.ver_sc,if_pos rfl,if_pos rfl]
    exact⟨rfl,rfl⟩
 ·cases h
end
end Go.Proofs.YtchgldaddcolhaaGreatDoor
