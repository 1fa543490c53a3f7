/- Part of the proof of Rows.ExerciseMiddleCardSaid: EvO, EvO2, EvO3. -/
import Derived.Laws.CopyRow
import Derived.Laws.Entries
import Derived.Laws.AppendOwn
import Derived.Laws.Slices
import Derived.Laws.BytesArg
import Derived.Test.YtjkdcddpicndgaaGreatDoorP04
set_option linter.all false
namespace Go.Proofs.YtjkdcddpicndgaaGreatDoor
open Go
variable [Sub]
structure EnvRel (w:World) (g:Gh) (H:List Obj) (tmps:Array Value) (e:Fr):Prop where
  loc:∀ t v,lk e.loc t = some v→Rep w g H (tmps.getD t undef) v
  env:∀ t v,lk e.env t = some v→Rep w g H (tmps.getD t undef) v
theorem cvt_rep {w:World} {g:Gh} {H:List Obj} {keep:Bool} {v:Value} {a:AV} (h:cvt keep v = some a):Rep w g H v a:=by
  unfold cvt at h
  split at h
  · cases h
    cases keep
    · exact .lit .nil
    · exact .p .nsl
  all_goals first | (cases h; done) | skip
  cases h
  refine .p (.v ?_)
  cases v <;> first | rfl | skip
  case pointer p _ _ _ _ _ _ _ _ _=>cases p <;> simp_all [Scalar]
  case map r _ _ _ _ _ _ _ _ _=>cases r <;> simp_all [Scalar]
  case chan r _ _ _ _ _ _ _ _ _=>cases r <;> simp_all [Scalar]
  all_goals simp_all
theorem arg_rep {w:World} {g:Gh} {H:List Obj} {a:Act} {e:Fr} (he:EnvRel w g H a.tmps e) {own:List Nat} {keep:Bool} {x:Operand} {sa:SA} {v:AV}
    (hc:compArg own keep x = some sa) (hv:ev e sa = some v):Rep w g H (a.eval x) v:=by
  cases x with
  | tmp t =>
    simp only [compArg] at hc
    split at hc
    · cases hc; exact he.loc t v hv
    · cases hc; exact he.env t v hv
  | const c =>
    simp only [compArg,Option.map_eq_some_iff] at hc
    obtain ⟨b,hb,rfl⟩:=hc
    simp only [ev,Option.some.injEq] at hv
    subst hv
    exact cvt_rep hb
  | global n=>simp [compArg] at hc
  | func f =>
    simp only [compArg,Option.some.injEq] at hc
    subst hc
    simp only [ev,Option.some.injEq] at hv
    subst hv
    exact .fn rfl rfl (fun i c x h=>by simp at h) (fun i c x h=>by simp at h)
def OpSim (P:Program) (a:Act) (w:World) (g:Gh) (H:List Obj) (o:Oper) (v:AV) (H':List Obj):Prop :=
  ∃ cv w' g',((execOp a.eval o).run P w = .ok (.value cv) w'∨((execOp a.eval o).run P w = .ok .skip w'∧cv = undef)) ∧
    Evo w g H w' g' H'∧StRel w' g' H'∧(o.dst = none∨Rep w' g' H' cv v)
theorem OpSim.quiet {P:Program} {a:Act} {w:World} {g:Gh} {H:List Obj} {o:Oper} {v:AV} {cv:Value} (hs:StRel w g H) (hr:(execOp a.eval o).run P w = .ok (.value cv) w) (h:Rep w g H cv v):OpSim P a w g H o v H :=
  ⟨cv,w,g,.inl hr,.refl _ _ _,hs,.inr h⟩
section
variable {P:Program} {w:World} {g:Gh} {H:List Obj}
theorem RepP.int {D:Nat→Nat→Prop} {c:Value} {k:IntKind} {n:Int} (h:RepP w D c (.v (.int k n))):c = .int k n:=by cases h; rfl
theorem RepP.val {D:Nat→Nat→Prop} {c x:Value} (h:RepP w D c (.v x)):c = x∧Scalar x = true:=by cases h with | v h=>exact ⟨rfl,h⟩
theorem Rep.val {c x:Value} (h:Rep w g H c (.p (.v x))):c = x∧Scalar x = true:=by cases h with | p h=>exact h.val
theorem Rep.v {x:Value} (h:Scalar x = true):Rep w g H x (.p (.v x)):=.p (.v h)
theorem run_shift {op:BinOp} {k j:IntKind} {m n:Int} {r:Value} (t:TypeId) (hop:op = .shl∨op = .shr) (h:shift op k m n = some r) :
    (Go.binOp op t (.int k m) (.int j n)).run P w = .ok r w∧Scalar r = true:=by
  unfold shift at h
  split at h
  · cases h
  · rename_i hn
    rcases hop with rfl | rfl <;> cases h <;> exact ⟨by simp [Go.binOp,Op.shift,hn],rfl⟩
theorem run_int {op:BinOp} {k:IntKind} {m n:Int} {r:Value} (t:TypeId) (h1:op ≠ .shl) (h2:op ≠ .shr) (h:binInt op k m n = some r) :
    (Go.binOp op t (.int k m) (.int k n)).run P w = .ok r w∧Scalar r = true:=by
  cases op <;> simp only [binInt,bits] at h
  case quo | rem =>
    split at h
    · cases h
    · rename_i hne; cases h; exact ⟨by simp [Go.binOp,Op.intDiv,hne],rfl⟩
  case shl=>exact absurd rfl h1
  case shr=>exact absurd rfl h2
  all_goals (cases h; exact ⟨by simp [Go.binOp,Op.intArith,Op.intBits,Op.intCmp],rfl⟩)
theorem run_str {op:BinOp} {a b:ByteArray} {r:Value} (t:TypeId) (h:binV op (.string a) (.string b) = some r) :
    (Go.binOp op t (.string a) (.string b)).run P w = .ok r w∧Scalar r = true:=by
  cases op <;> simp only [binV] at h
  case add =>
    split at h
    · rename_i hlt; cases h
      refine ⟨?_,rfl⟩
      have:¬ (9223372036854775807 < (a.size:Int) + (b.size:Int)):=by omega
      simp [Go.binOp,Op.stringOp,IntKind.max,IntKind.bits,IntKind.signed,this]
    · cases h
  case eql | neq=>cases h; exact ⟨by simp [Go.binOp,Op.stringOp],rfl⟩
  all_goals cases h
theorem run_equalIn_bool (d:Nat) {t:TypeId} (a b:Bool) (ht:P.underlying t = some .bool):(Op.equalIn (d + 1) t (.bool a) (.bool b)).run P w = .ok (a == b) w:=by
  simp [Op.equalIn,run_underlying ht]
theorem run_binB {op:BinOp} {u v r:Value} {t:TypeId} (ht:P.underlying t = some .bool) (h:binB op u v = some r) :
    (Go.binOp op t u v).run P w = .ok r w∧Scalar r = true:=by
  unfold binB at h
  split at h
  · rename_i a b
    cases op <;> simp only at h
    case eql=>cases h; exact ⟨by simp only [Go.binOp,Op.equal,Op.maxDepth,Sem.run_bind,run_equalIn_bool (w:=w) 9999 a b ht]; rfl,rfl⟩
    case neq=>cases h; exact ⟨by simp only [Go.binOp,Op.equal,Op.maxDepth,Sem.run_bind,run_equalIn_bool (w:=w) 9999 a b ht]; rfl,rfl⟩
    all_goals cases h
  · cases h
theorem run_binV {op:BinOp} {u v r:Value} {t:TypeId} (h:binV op u v = some r) :
    (Go.binOp op t u v).run P w = .ok r w∧Scalar r = true:=by
  cases u with
  | int k m =>
    cases v with
    | int j n =>
      by_cases h1:op = .shl
      · subst h1; exact run_shift t (.inl rfl) h
      · by_cases h2:op = .shr
        · subst h2; exact run_shift t (.inr rfl) h
        · have h':(if k = j then binInt op k m n else none) = some r:=by
            cases op <;> first | exact absurd rfl h1 | exact absurd rfl h2 | exact h
          split at h'
          · rename_i hk; subst hk; exact run_int t h1 h2 h'
          · cases h'
    | _=>simp [binV] at h
  | string s =>
    cases v with
    | string t'=>exact run_str t h
    | _=>simp [binV] at h
  | _=>simp [binV] at h
theorem guard_binV {op:BinOp} {u v r:Value} {xt:TypeId} {x y:Operand} (h:binV op u v = some r):(eqGuard op xt x y u v).run P w = .ok () w:=by
  cases u <;> cases v <;> first
    | (simp [binV] at h; done)
    | (clear h; cases op <;> rfl)
theorem guard_binB {op:BinOp} {u v r:Value} {xt:TypeId} {x y:Operand} (h:binB op u v = some r):(eqGuard op xt x y u v).run P w = .ok () w:=by
  cases u <;> cases v <;> first
    | (simp [binB] at h; done)
    | (clear h; cases op <;> rfl)
theorem evVal_some {e:Fr} {x:SA} {v:Value} (h:evVal e x = some v):ev e x = some (.p (.v v)):=by
  unfold evVal at h
  cases he:ev e x with
  | none=>rw [he] at h; cases h
  | some a =>
    rw [he] at h
    simp only [Option.bind_some] at h
    unfold asVal at h
    split at h
    · cases h; rfl
    · cases h
theorem evInt_some {e:Fr} {x:SA} {n:Int} (h:evInt e x = some n):∃ k,ev e x = some (.p (.v (.int k n))):=by
  unfold evInt at h
  cases he:ev e x with
  | none=>rw [he] at h; cases h
  | some a =>
    rw [he] at h
    simp only [Option.bind_some] at h
    unfold asInt at h
    split at h
    · cases h; exact ⟨_,rfl⟩
    · cases h
theorem evStr_some {e:Fr} {x:SA} {s:ByteArray} (h:evStr e x = some s):ev e x = some (.p (.v (.string s))):=by
  unfold evStr at h
  cases he:ev e x with
  | none=>rw [he] at h; cases h
  | some a =>
    rw [he] at h
    simp only [Option.bind_some] at h
    unfold asStr at h
    split at h
    · cases h; rfl
    · cases h
theorem evBool_some {e:Fr} {x:SA} {s:Bool} (h:evBool e x = some s):ev e x = some (.p (.v (.bool s))):=by
  unfold evBool at h
  cases he:ev e x with
  | none=>rw [he] at h; cases h
  | some a =>
    rw [he] at h
    simp only [Option.bind_some] at h
    unfold asBoolA at h
    split at h
    · cases h; rfl
    · cases h
theorem evMap_some {e:Fr} {x:SA} {r:Nat} (h:evMap e x = some r):ev e x = some (.map r):=by
  unfold evMap at h
  cases he:ev e x with
  | none=>rw [he] at h; cases h
  | some a =>
    rw [he] at h
    simp only [Option.bind_some] at h
    unfold asMap at h
    split at h
    · cases h; rfl
    · cases h
def RunV (P:Program) (a:Act) (w:World) (g:Gh) (H:List Obj) (o:Oper) (v:AV):Prop:=∃ cv,(execOp a.eval o).run P w = .ok (.value cv) w∧Rep w g H cv v
theorem RunV.sim {a:Act} {o:Oper} {v:AV} (hs:StRel w g H) (h:RunV P a w g H o v):OpSim P a w g H o v H:=let ⟨_,h1,h2⟩:=h; .quiet hs h1 h2
variable {a:Act} {dst:Option Tmp} {ty:TypeId} {pos:String} {after:Array Edge} {gd:Option (Nat×Bool)}
theorem run_move {x:Operand} {v:AV} (h:Rep w g H (a.eval x) v):RunV P a w g H ⟨dst,.move x,ty,pos,after,gd⟩ v:=⟨_,by simp [execOp],h⟩
theorem run_assign {x:Operand} {v:AV} (h:Rep w g H (a.eval x) v):RunV P a w g H ⟨dst,.assign x,ty,pos,after,gd⟩ v:=⟨_,by simp [execOp],h⟩
theorem run_pick {c x y:Operand} {t:Bool} {v:AV} (hc:Rep w g H (a.eval c) (.p (.v (.bool t)))) (h:Rep w g H (if t then a.eval x else a.eval y) v) :
    RunV P a w g H ⟨dst,.pick c x y,ty,pos,after,gd⟩ v:=⟨if t then a.eval x else a.eval y,by simp [execOp,hc.val.1,asBool],h⟩
theorem run_bin {op:BinOp} {xt yt:TypeId} {x y:Operand} {u v r:Value} (hx:Rep w g H (a.eval x) (.p (.v u))) (hy:Rep w g H (a.eval y) (.p (.v v))) (h:binV op u v = some r) :
    RunV P a w g H ⟨dst,.binOp op xt x y yt,ty,pos,after,gd⟩ (.p (.v r)):=by
  have key:=run_binV (w:=w) (P:=P) (t:=xt) h
  exact ⟨r,by simp [execOp,hx.val.1,hy.val.1,guard_binV (w:=w) (P:=P) (xt:=xt) (x:=x) (y:=y) h,key.1],.v key.2⟩
theorem run_binBool {op:BinOp} {xt yt:TypeId} {x y:Operand} {u v r:Value} (ht:P.underlying xt = some .bool) (hx:Rep w g H (a.eval x) (.p (.v u))) (hy:Rep w g H (a.eval y) (.p (.v v))) (h:binB op u v = some r) :
    RunV P a w g H ⟨dst,.binOp op xt x y yt,ty,pos,after,gd⟩ (.p (.v r)):=by
  have key:=run_binB (w:=w) (P:=P) ht h
  exact ⟨r,by simp [execOp,hx.val.1,hy.val.1,guard_binB (w:=w) (P:=P) (xt:=xt) (x:=x) (y:=y) h,key.1],.v key.2⟩
theorem run_un {op:UnOp} {xt:TypeId} {x:Operand} {u r:Value} (hx:Rep w g H (a.eval x) (.p (.v u))) (h:un op u = some r) :
    RunV P a w g H ⟨dst,.unOp op xt x,ty,pos,after,gd⟩ (.p (.v r)):=by
  have key:(Op.unary op u).run P w = .ok r w∧Scalar r = true:=by
    cases u <;> cases op <;> first
      | (simp only [un] at h; cases h; exact ⟨rfl,rfl⟩)
      | (simp [un] at h; done)
  exact ⟨r,by simp [execOp,hx.val.1,key.1],.v key.2⟩
theorem run_conv {s d:TypeId} {x:Operand} {k:IntKind} {n:Int} {j:IntKind} {u:TypeDesc} (hsu:P.underlying s = some u) (hd:P.underlying d = some (.int k)) (hx:Rep w g H (a.eval x) (.p (.v (.int j n)))) :
    RunV P a w g H ⟨dst,.convert s d x,ty,pos,after,gd⟩ (.p (.v (.int k (k.wrap n)))) :=
  ⟨_,by simp [execOp,hx.val.1,Go.convert,run_underlying hsu,run_underlying hd,Conv.intToInt],.v rfl⟩
theorem run_nilck {x:Operand} {u v:AV} (hx:Rep w g H (a.eval x) u) (h:nilckV u = some v):RunV P a w g H ⟨dst,.nilCheck x,ty,pos,after,gd⟩ v:=by
  have key:v = u∧(execOp a.eval ⟨dst,.nilCheck x,ty,pos,after,gd⟩).run P w = .ok (.value (a.eval x)) w:=by
    generalize hc:a.eval x = c at hx
    cases hx with
    | ptr h1=>cases h; exact ⟨rfl,by simp [execOp,hc]⟩
    | elp h1=>cases h; exact ⟨rfl,by simp [execOp,hc]⟩
    | imm=>cases h; exact ⟨rfl,by simp [execOp,hc]⟩
    | fn h1 h2 h3 h4 =>
      rename_i f _ _ _ _
      cases f with
      | func f=>cases h; exact ⟨rfl,by simp [execOp,hc]⟩
      | _=>simp [nilckV] at h
    | yld=>cases h; exact ⟨rfl,by simp [execOp,hc]⟩
    | _=>simp [nilckV] at h
  exact ⟨_,key.2,by rw [key.1]; exact hx⟩
theorem args_rep {kn:TypeId→Bool} {e:Fr} (he:EnvRel w g H a.tmps e) {own:List Nat}:∀ {xs:List Operand} {ts:List TypeId} {sas:List SA} {vs:List AV},
    compArgs kn own xs ts = some sas→evs e sas = some vs→xs.length = vs.length∧∀ (i:Nat) (x:Operand) (v:AV),xs[i]? = some x→vs[i]? = some v→Rep w g H (a.eval x) v
  | [],ts,sas,vs,h1,h2=>by
    simp only [compArgs,Option.some.injEq] at h1
    subst h1
    simp only [evs,Option.some.injEq] at h2
    subst h2
    exact ⟨rfl,fun i x v h=>by simp at h⟩
  | x :: xs,ts,sas,vs,h1,h2=>by
    simp only [compArgs,Option.bind_eq_some_iff,Option.map_eq_some_iff] at h1
    obtain ⟨sa,h3,sas',h4,rfl⟩:=h1
    simp only [evs,Option.bind_eq_some_iff,Option.some.injEq] at h2
    obtain ⟨v,h5,vs',h6,rfl⟩:=h2
    obtain ⟨ih1,ih2⟩:=args_rep he h4 h6
    refine ⟨by simp [ih1],fun i y u hy hu=>?_⟩
    cases i with
    | zero=>simp at hy hu; subst hy; subst hu; exact arg_rep he h3 h5
    | succ i=>simp at hy hu; exact ih2 i y u hy hu
theorem map_rep {xs:Array Operand} {vs:List AV} (h1:xs.toList.length = vs.length) (h2:∀ (i:Nat) (x:Operand) (v:AV),xs.toList[i]? = some x→vs[i]? = some v→Rep w g H (a.eval x) v) :
    (xs.map a.eval).size = vs.length∧∀ (i:Nat) (c:Value) (v:AV),(xs.map a.eval)[i]? = some c→vs[i]? = some v→Rep w g H c v:=by
  refine ⟨by simpa using h1,fun i c v hc hv=>?_⟩
  simp only [Array.getElem?_map,Option.map_eq_some_iff] at hc
  obtain ⟨x,hx,rfl⟩:=hc
  exact h2 i x v (by simpa using hx) hv
theorem run_mkfn {fn:Fn} {x y:Array Operand} {us vs:List AV} (hx:x.toList.length = us.length) (hx2:∀ (i:Nat) (o:Operand) (v:AV),x.toList[i]? = some o→us[i]? = some v→Rep w g H (a.eval o) v)
    (hy:y.toList.length = vs.length) (hy2:∀ (i:Nat) (o:Operand) (v:AV),y.toList[i]? = some o→vs[i]? = some v→Rep w g H (a.eval o) v) :
    RunV P a w g H ⟨dst,.makeFunc fn x y,ty,pos,after,gd⟩ (.fn fn us vs):=by
  obtain ⟨e1,e2⟩:=map_rep hx hx2
  obtain ⟨f1,f2⟩:=map_rep hy hy2
  exact ⟨_,by simp [execOp,Instr.makeFunc],.fn e1 f1 e2 f2⟩
theorem run_extract {x:Operand} {i:Nat} {u v:AV} (hx:Rep w g H (a.eval x) u) (h:extractV i u = some v):RunV P a w g H ⟨dst,.extract x i,ty,pos,after,gd⟩ v:=by
  generalize hc:a.eval x = c at hx
  cases hx with
  | tup ha hr =>
    simp only [extractV] at h
    rename_i arr as
    have hi:i < arr.size:=by have:=(List.getElem?_eq_some_iff.1 h).1; omega
    exact ⟨arr[i],by simp [execOp,Instr.extract,hc,hi],hr i _ _ (by simp [hi]) h⟩
  | _=>simp [extractV] at h
theorem addr_add (b o n:Nat):(⟨b,o,none⟩:Addr).add n = ⟨b,o + n,none⟩:=by unfold Addr.add; split <;> simp_all
theorem fadrV_rep {n:Nat} {c:Value} {u v:AV} (hx:Rep w g H c u) (h:fadrV n u = some v):∃ p:Addr,c = .pointer (some p)∧Rep w g H (.pointer (some (p.add n))) v:=by
  cases hx with
  | ptr h1=>cases h; exact ⟨_,rfl,by rw [addr_add]; exact .ptr h1⟩
  | elp h1 =>
    cases h
    refine ⟨_,rfl,?_⟩
    rw [addr_add]
    obtain ⟨es,fz,ver,rows,hH,hv,hi,hf⟩:=h1
    refine .elp ⟨es,fz,ver,rows,hH,hv,hi,fun hs=>?_⟩
    have h2:=hf hs
    cases fz with
    | none=>obtain ⟨e1,e2⟩:=h2; exact ⟨e1,by rw [e2,Nat.add_assoc]⟩
    | some f=>exact fun row hr j x hx=>by rw [Nat.add_assoc]; exact h2 row hr (n + j) x (by rw [← Nat.add_assoc]; exact hx)
  | imm cs hD hcell hr=>cases h; exact ⟨_,rfl,by rw [addr_add,Nat.add_assoc]; exact .imm cs hD hcell hr⟩
  | _=>simp [fadrV] at h
theorem run_fadr {t:TypeId} {x:Operand} {f:Nat} {fs:Array Field} {fd:Field} {i:TypeInfo} {u v:AV} (ht:P.underlying t = some (.struct fs)) (hf:fs[f]? = some fd) (hi:P.info? fd.type = some i) (hz:i.size ≠ 0)
    (hx:Rep w g H (a.eval x) u) (h:fadrV fd.offset u = some v):RunV P a w g H ⟨dst,.fieldAddr t x f,ty,pos,after,gd⟩ v:=by
  obtain ⟨p,hc,hr⟩:=fadrV_rep hx h
  exact ⟨_,by simp [execOp,hc,Instr.fieldAt,run_underlying ht,hf,Instr.sureAddr,fieldPlace,sizeOf,typeInfo,hi,hz],hr⟩
theorem RepP.one {D:Nat→Nat→Prop} {c:Value} {x:PV} (h:RepP w D c x):c.oneCell' = true:=by
  induction h with
  | @v c h=>cases c <;> first | rfl | (simp [Scalar] at h; done)
  | h _ ih=>exact ih
  | _=>rfl
theorem cellsOf_rep {c:Value} {v:AV} {cs:List AV} (h:Rep w g H c v) (hc:cellsOf v = some cs) :
    c.cells.size = cs.length∧∀ (i:Nat) (u:Value) (x:AV),c.cells[i]? = some u→cs[i]? = some x→Rep w g H u x∧u.oneCell' = true:=by
  have one:c.oneCell' = true→cellsOf v = some [v]→c.cells = #[c]→c.cells.size = cs.length∧∀ (i:Nat) (u:Value) (x:AV),c.cells[i]? = some u→cs[i]? = some x→Rep w g H u x∧u.oneCell' = true:=fun h1 h2 h3=>by
    rw [h2] at hc; cases hc
    rw [h3]
    refine ⟨rfl,fun i u x hu hx=>?_⟩
    cases i with
    | zero=>simp at hu hx; subst hu; subst hx; exact ⟨h,h1⟩
    | succ i=>simp at hx
  cases h with
  | agg ha h1 hr=>cases hc; exact ⟨ha,fun i u x hu hx=>⟨hr i u x hu hx,h1 i u hu⟩⟩
  | tup=>cases hc
  | p h' =>
    have h1:=h'.one
    refine one h1 rfl ?_
    cases c <;> first | rfl | (simp [Value.oneCell'] at h1; done)
  | lit _=>exact one rfl rfl rfl
  | ar _=>exact one rfl rfl rfl
  | ptr _=>exact one rfl rfl rfl
  | elp _=>exact one rfl rfl rfl
  | imm _ _ _ _=>exact one rfl rfl rfl
  | fn _ _ _ _=>exact one rfl rfl rfl
  | map _=>exact one rfl rfl rfl
  | yld _=>exact one rfl rfl rfl
  | emp=>exact one rfl rfl rfl
  | csl _ _=>exact one rfl rfl rfl
theorem len_rep {c:Value} {v:AV} {n:Nat} (h:Rep w g H c v) (hn:lenOf v = some n):∃ p cap,c = .slice p n cap∧n ≤ cap:=by
  cases h with
  | p h=>cases h <;> simp only [lenOf] at hn <;> cases hn <;> first | exact ⟨_,_,rfl,Nat.le_refl _⟩ | (rename_i hl hc _ _ _ _; subst hl; exact ⟨_,_,rfl,hc⟩)
  | lit h=>simp only [lenOf] at hn; cases hn; cases h with
    | nil=>exact ⟨_,_,rfl,Nat.le_refl _⟩
    | sl cs hl hc=>subst hl; exact ⟨_,_,rfl,hc⟩
  | ar h=>simp only [lenOf] at hn; cases hn; exact ⟨_,_,rfl,h.1⟩
  | emp=>simp only [lenOf] at hn; cases hn; exact ⟨_,_,rfl,Nat.zero_le _⟩
  | csl h hle=>simp only [lenOf] at hn; cases hn; exact ⟨_,_,rfl,hle⟩
  | _=>simp [lenOf] at hn
theorem run_len {c:Call} {x:Operand} {t e:TypeId} {v:AV} {n:Nat} (hc:c.callee = .builtin .len) (ha:c.args.toList = [x]) (ht:c.argTypes[0]? = some t) (hu:P.underlying t = some (.slice e))
    (hx:Rep w g H (a.eval x) v) (h:lenOf v = some n):RunV P a w g H ⟨dst,.call c,ty,pos,after,gd⟩ (.p (.v (.int .i64 n))):=by
  obtain ⟨p,cap,hv,_⟩:=len_rep hx h
  have ha':c.args = #[x]:=by rw [← Array.toList_inj]; exact ha
  exact ⟨_,by simp [execOp,resolve,hc,ha',Go.invoke,Go.builtin,Builtin.len_,ht,run_underlying hu,hv,goInt],.v rfl⟩
theorem run_lenS {c:Call} {x:Operand} {t:TypeId} {s:ByteArray} (hc:c.callee = .builtin .len) (ha:c.args.toList = [x]) (ht:c.argTypes[0]? = some t) (hu:P.underlying t = some .string)
    (hx:Rep w g H (a.eval x) (.p (.v (.string s)))):RunV P a w g H ⟨dst,.call c,ty,pos,after,gd⟩ (.p (.v (.int .i64 s.size))):=by
  have ha':c.args = #[x]:=by rw [← Array.toList_inj]; exact ha
  exact ⟨_,by simp [execOp,resolve,hc,ha',Go.invoke,Go.builtin,Builtin.len_,ht,run_underlying hu,hx.val.1,goInt],.v rfl⟩
theorem load_rep {c:Value} {v:AV} {n:Nat} {cs:List AV} (hs:StRel w g H) (h:Rep w g H c v) (hl:loadC H n v = some cs) :
    ∃ p:Addr,c = .pointer (some p)∧cs.length = n∧∃ f:Nat→Value,∀ j,j < n→w.cell? (p.add j) = some (f j)∧(f j).oneCell' = true∧∀ x,cs[j]? = some x→Rep w g H (f j) x:=by
  have fin:∀ (b o:Nat) (cs:List AV),cs.length = n→(∀ (j:Nat) (x:AV),cs[j]? = some x→∃ cv,cellAt w b (o + j) = some cv∧cv.oneCell' = true∧Rep w g H cv x) →
      ∃ f:Nat→Value,∀ j,j < n→w.cell? ((⟨b,o,none⟩:Addr).add j) = some (f j)∧(f j).oneCell' = true∧∀ x,cs[j]? = some x→Rep w g H (f j) x:=fun b o cs hn hcs=>by
    refine ⟨fun j=>(cellAt w b (o + j)).getD undef,fun j hj=>?_⟩
    obtain ⟨cv,h1,h2,h3⟩:=hcs j cs[j] (by simp [hn,hj])
    rw [addr_add]
    have hv:(cellAt w b (o + j)).getD undef = cv:=by rw [h1]; rfl
    show w.cell? ⟨b,o + j,none⟩ = some ((cellAt w b (o + j)).getD undef)∧((cellAt w b (o + j)).getD undef).oneCell' = true∧∀ x,cs[j]? = some x→Rep w g H ((cellAt w b (o + j)).getD undef) x
    rw [hv]
    refine ⟨h1,h2,fun x hx=>?_⟩
    have:cs[j]? = some cs[j]:=by simp [hn,hj]
    rw [this] at hx; cases hx; exact h3
  cases h with
  | ptr hH =>
    simp only [loadC,hH] at hl
    split at hl
    · rename_i hle
      cases hl
      obtain ⟨vs,e,h1,h2,h3⟩:=hs.objs _ _ hH
      refine ⟨_,rfl,by simp; omega,fin _ _ _ (by simp; omega) (fun j x hx=>?_)⟩
      rw [List.getElem?_take] at hx
      split at hx
      · rw [List.getElem?_drop] at hx
        rename_i off c hj
        have hlt:off + j < vs.size:=by have:=(List.getElem?_eq_some_iff.1 hx).1; omega
        have:=h3 (off + j) vs[off + j] x (by simp [hlt]) hx
        exact ⟨vs[off + j],by rw [cellAt_cells h1]; simp [hlt],this.2,this.1⟩
      · cases hx
    · cases hl
  | elp he =>
    obtain ⟨es,fz,ver,rows,hH,hv,hi,hf⟩:=he
    simp only [loadC,hH] at hl
    split at hl
    · rename_i hsn
      have h2:=hf hsn
      simp only [Option.bind_eq_some_iff] at hl
      obtain ⟨row,hrow,hl⟩:=hl
      split at hl
      · rename_i hle
        cases hl
        obtain ⟨_,_,_,h5,_⟩:=hs.objs _ _ hH
        refine ⟨_,rfl,by simp; omega,fin _ _ _ (by simp; omega) (fun j x hx=>?_)⟩
        simp only [List.getElem?_map,Option.map_eq_some_iff] at hx
        obtain ⟨y,hy,rfl⟩:=hx
        rw [List.getElem?_take] at hy
        split at hy
        · rw [List.getElem?_drop] at hy
          cases fz with
          | none =>
            obtain ⟨e1,e2⟩:=h2
            obtain ⟨cv,e3,e4⟩:=h5 _ _ row y hrow hy
            exact ⟨cv,by rw [e1,e2,Nat.add_assoc]; exact e3,e4.one,.p e4⟩
          | some f =>
            obtain ⟨_,cv,e3,e4⟩:=h2 row hrow j y hy
            exact ⟨cv,e3,e4.one,.p e4⟩
        · cases hy
      · cases hl
    · cases hl
  | imm cs' hD hcell hr =>
    simp only [loadC] at hl
    split at hl
    · rename_i hle
      cases hl
      refine ⟨_,rfl,by simp; omega,fin _ _ _ (by simp; omega) (fun j x hx=>?_)⟩
      simp only [List.getElem?_map,Option.map_eq_some_iff] at hx
      obtain ⟨y,hy,rfl⟩:=hx
      rw [List.getElem?_take] at hy
      split at hy
      · rw [List.getElem?_drop] at hy
        have hlt:=(List.getElem?_eq_some_iff.1 hy).1
        exact ⟨cs' _,by rw [Nat.add_assoc]; exact hcell _ hlt,(hr _ y hy).one,.p (hr _ y hy)⟩
      · cases hy
    · cases hl
  | _=>simp [loadC] at hl
theorem run_load1 {t:TypeId} {x:Operand} {d:TypeDesc} {u v:AV} (hs:StRel w g H) (hu:P.underlying t = some d) (hd:aggT d = false)
    (hx:Rep w g H (a.eval x) u) (h:load1V H u = some v):RunV P a w g H ⟨dst,.load t x,ty,pos,after,gd⟩ v:=by
  unfold load1V at h
  split at h
  · rename_i c hl
    cases h
    obtain ⟨p,hc,hn,f,hf⟩:=load_rep hs hx hl
    obtain ⟨h1,h2,h3⟩:=hf 0 (by omega)
    have h1':w.cell? p = some (f 0):=by simpa [Addr.add] using h1
    refine ⟨f 0,?_,h3 _ rfl⟩
    have hagg:(isAgg t).run P w = .ok false w:=by
      simp only [isAgg,Sem.run_bind,run_underlying hu,Result.andThen_ok]
      cases d <;> first | rfl | (simp [aggT] at hd; done)
    simp [execOp,hc,Instr.loadAt,Instr.sureAddr,loadVar,hagg,h1']
  · cases h
theorem run_loadn {t:TypeId} {x:Operand} {d:TypeDesc} {i:TypeInfo} {u:AV} {cs:List AV} (hs:StRel w g H) (hu:P.underlying t = some d) (hd:aggT d = true)
    (hi:P.info? t = some i) (hx:Rep w g H (a.eval x) u) (h:loadC H i.size u = some cs):RunV P a w g H ⟨dst,.load t x,ty,pos,after,gd⟩ (.agg cs):=by
  obtain ⟨p,hc,hn,f,hf⟩:=load_rep hs hx h
  have hagg:(isAgg t).run P w = .ok true w:=by
    simp only [isAgg,Sem.run_bind,run_underlying hu,Result.andThen_ok]
    cases d <;> first | rfl | (simp [aggT] at hd; done)
  have hld:=run_loadCells (P:=P) w p i.size f (fun j hj=>(hf j hj).1)
  refine ⟨.agg ((List.range i.size).map f).toArray,by simp [execOp,hc,Instr.loadAt,Instr.sureAddr,loadVar,hagg,sizeOf,typeInfo,hi,hld],.agg (by simp [hn]) (fun j c hj=>?_) (fun j c y hj hy=>?_)⟩
  · simp only [List.getElem?_toArray,List.getElem?_map,Option.map_eq_some_iff] at hj
    obtain ⟨k,hk,rfl⟩:=hj
    obtain ⟨hlt,rfl⟩:=List.getElem?_eq_some_iff.1 hk
    simp only [List.getElem_range,List.length_range] at hlt ⊢
    exact (hf j hlt).2.1
  · simp only [List.getElem?_toArray,List.getElem?_map,Option.map_eq_some_iff] at hj
    obtain ⟨k,hk,rfl⟩:=hj
    obtain ⟨hlt,rfl⟩:=List.getElem?_eq_some_iff.1 hk
    simp only [List.getElem_range,List.length_range] at hlt ⊢
    exact (hf j hlt).2.2 y hy
end
end Go.Proofs.YtjkdcddpicndgaaGreatDoor
namespace Go.Proofs.YtjkdcddpicndgaaGreatDoor
open Go
variable [Sub]
section
variable {P:Program} {w:World} {g:Gh} {H:List Obj}
variable {a:Act} {dst:Option Tmp} {ty:TypeId} {pos:String} {after:Array Edge} {gd:Option (Nat×Bool)}
theorem isNil_rep {c:Value} {v:AV} {t:Bool} (h:Rep w g H c v) (hn:isNil v = some t):∃ p n cap,c = .slice p n cap∧p.isNone = t:=by
  cases h with
  | p h =>
    cases h with
    | nsl=>cases hn; exact ⟨_,_,_,rfl,rfl⟩
    | nil=>cases hn
    | @sl _ _ _ _ _ rows=>cases rows <;> cases hn; exact ⟨_,_,_,rfl,rfl⟩
    | v=>cases hn
    | @h _ s n h =>
      cases s with
      | false=>cases hn
      | true =>
        cases hn
        obtain ⟨r,rs,e⟩:=Sub.ne n
        rw [e] at h
        cases h
        exact ⟨_,_,_,rfl,rfl⟩
  | @lit _ _ rows h =>
    cases rows with
    | nil=>cases hn
    | cons r rs=>cases hn; cases h; exact ⟨_,_,_,rfl,rfl⟩
  | @ar l v off len p cap h =>
    cases len with
    | zero=>cases hn
    | succ n =>
      cases hn
      obtain ⟨h1,h2,_⟩:=h
      rcases h2 with ⟨rfl,rfl⟩ | ⟨b,o,rfl⟩
      · omega
      · exact ⟨_,_,_,rfl,rfl⟩
  | emp=>cases hn; exact ⟨_,_,_,rfl,rfl⟩
  | _=>cases hn
theorem run_equal_nil {t e:TypeId} (ht:P.underlying t = some (.slice e)) (p:Option Addr) (n cap:Nat) :
    (Op.equal t (.slice p n cap) (.slice none 0 0)).run P w = .ok p.isNone w:=by
  have key:∀ d:Nat,(Op.equalIn (d + 1) t (.slice p n cap) (.slice none 0 0)).run P w = .ok p.isNone w:=fun d=>by cases p <;> simp [Op.equalIn,run_underlying ht]
  exact key 9999
theorem run_isnil {t e:TypeId} {x:Operand} {yt:TypeId} {op:BinOp} {neg:Bool} {u:AV} {r:Bool} (ht:P.underlying t = some (.slice e)) (hop:op = if neg then .neq else .eql)
    (hx:Rep w g H (a.eval x) u) (h:isNil u = some r):RunV P a w g H ⟨dst,.binOp op t x (.const (.slice none 0 0)) yt,ty,pos,after,gd⟩ (.p (.v (.bool (if neg then !r else r)))):=by
  obtain ⟨p,n,cap,hc,hp⟩:=isNil_rep hx h
  have hq:=run_equal_nil (w:=w) (P:=P) ht p n cap
  have he:a.eval (.const (.slice none 0 0)) = .slice none 0 0:=rfl
  subst hop
  cases neg
  · refine ⟨.bool r,?_,.v rfl⟩
    simp [execOp,hc,he,eqGuard,Go.binOp,hq,hp]
  · refine ⟨.bool (!r),?_,.v rfl⟩
    simp [execOp,hc,he,eqGuard,Go.binOp,hq,hp]
theorem RepP.rows {D:Nat→Nat→Prop} {p:Option Addr} {n cap es:Nat} {rows:List (List PV)} (h:RepP w D (.slice p n cap) (.sl rows)) (hes:∀ r ∈ rows,r.length = es) :
    rows.length = n∧n ≤ cap∧AddrOk p cap∧(0 < n→∃ b o,p = some ⟨b,o,none⟩∧∀ (i j:Nat) (row:List PV) (x:PV),rows[i]? = some row→row[j]? = some x →
      D b (o + i * es + j)∧∃ c,cellAt w b (o + i * es + j) = some c∧RepP w D c x):=by
  cases h with
  | nil=>exact ⟨rfl,Nat.le_refl _,.inl ⟨rfl,rfl⟩,fun h=>by omega⟩
  | @sl b o _ _ es' _ cs hn hc hes' hD hcell hr =>
    refine ⟨hn,hc,.inr ⟨b,o,rfl⟩,fun h0=>⟨b,o,rfl,fun i j row x hi hj=>?_⟩⟩
    have he:es' = es:=by
      have h1:0 < rows.length:=by omega
      rw [← hes' rows[0] (List.getElem_mem h1),← hes rows[0] (List.getElem_mem h1)]
    subst he
    have hi':i < n:=by have:=(List.getElem?_eq_some_iff.1 hi).1; omega
    have hj':j < es':=by have:=(List.getElem?_eq_some_iff.1 hj).1; rw [hes' row (List.mem_of_getElem? hi)] at this; exact this
    exact ⟨hD i j hi' hj',cs i j,hcell i j hi' hj',hr i j row x hi hj⟩
theorem all_len {rows:List (List PV)} {es:Nat} (h:rows.all (fun r=>r.length == es) = true):∀ r ∈ rows,r.length = es:=fun r hr=>by
  have:=List.all_eq_true.1 h r hr
  simpa using this
theorem RepP.sub {D:Nat→Nat→Prop} {p:Option Addr} {n cap cap' es l h:Nat} {rows:List (List PV)} (hr:RepP w D (.slice p n cap) (.sl rows)) (hes:∀ r ∈ rows,r.length = es)
    (hlh:l ≤ h) (hh:h ≤ n) (m:Nat) (hm:h ≤ m) (hmc:m ≤ cap) (hc':cap' = m - l) :
    RepP w D (.slice (if m = l then p else p.map (·.add (l * es))) (h - l) cap') (.sl ((rows.drop l).take (h - l))):=by
  obtain ⟨h1,h2,h3,h4⟩:=hr.rows hes
  rcases h3 with ⟨rfl,rfl⟩ | ⟨b,o,rfl⟩
  · have:h - l = 0:=by omega
    have h0:cap' = 0:=by omega
    rw [this,h0]
    simp only [List.take_zero]
    split
    · exact .nil
    · exact .nil
  · have hlen:((rows.drop l).take (h - l)).length = h - l:=by simp; omega
    have hmem:∀ r ∈ (rows.drop l).take (h - l),r.length = es:=fun r hr=>hes r (List.mem_of_mem_drop (List.mem_of_mem_take hr))
    by_cases e:m = l
    · rw [if_pos e]
      have h0:h - l = 0:=by omega
      refine RepP.of_rows (es:=es) hlen (by omega) hmem (fun i j row x hi _=>?_)
      rw [h0] at hi
      simp at hi
    · rw [if_neg e]
      simp only [Option.map_some,addr_add]
      refine RepP.of_rows (es:=es) hlen (by omega) hmem (fun i j row x hi hj=>?_)
      have hi':rows[l + i]? = some row:=by
        rw [List.getElem?_take] at hi
        split at hi
        · rwa [List.getElem?_drop] at hi
        · cases hi
      have hlt:l + i < rows.length:=(List.getElem?_eq_some_iff.1 hi').1
      obtain ⟨b',o',he,hcell⟩:=h4 (by omega)
      cases he
      have:=hcell (l + i) j row x hi' hj
      rwa [show o + (l + i) * es + j = o + l * es + i * es + j by rw [Nat.add_mul]; omega] at this
theorem run_idx {t e:TypeId} {ti:TypeInfo} {x y:Operand} {u v:AV} {k:IntKind} {n:Int} (hs0:StRel w g H) (ht:P.underlying t = some (.slice e)) (hi:P.info? e = some ti)
    (hx:Rep w g H (a.eval x) u) (hy:Rep w g H (a.eval y) (.p (.v (.int k n)))) (h:idxSl H ti.size u n = some v):RunV P a w g H ⟨dst,.indexAddr t x y,ty,pos,after,gd⟩ v:=by
  unfold idxSl at h
  split at h
  · rename_i hn
    have run:∀ (p:Addr) (len cap:Nat),a.eval x = .slice (some p) len cap→n.toNat < len →
        (execOp a.eval ⟨dst,.indexAddr t x y,ty,pos,after,gd⟩).run P w = .ok (.value (.pointer (some (p.add (n.toNat * ti.size))))) w:=fun p len cap hc hlt=>by
      have:0 ≤ n∧n < len:=⟨hn,by omega⟩
      simp [execOp,Instr.indexAt,hc,hy.val.1,asIntOf,run_underlying ht,this,sizeOf,typeInfo,hi]
    have still:∀ (p:Option Addr) (len cap:Nat) (rows:List (List PV)) (row:List PV),a.eval x = .slice p len cap→RepP w g.D (.slice p len cap) (.sl rows)→rows[n.toNat]? = some row→row.length = ti.size →
        RunV P a w g H ⟨dst,.indexAddr t x y,ty,pos,after,gd⟩ (.imm row 0):=fun p len cap rows row hc hr hrow hl=>by
      cases hr with
      | nil=>simp at hrow
      | @sl b o _ _ es' _ cs hn' hc' hes' hD hcell hr' =>
        have hlt:n.toNat < len:=by have:=(List.getElem?_eq_some_iff.1 hrow).1; omega
        have he:es' = ti.size:=by rw [← hes' row (List.mem_of_getElem? hrow),hl]
        subst he
        refine ⟨_,run _ _ _ hc hlt,?_⟩
        rw [addr_add]
        exact .imm (i:=o + n.toNat * ti.size) (off:=0) (fun j=>cs n.toNat j) (fun j hj=>hD _ _ hlt (by omega)) (fun j hj=>hcell _ _ hlt (by omega)) (fun j x hx=>hr' _ _ row x hrow hx)
    generalize hc:a.eval x = c at hx
    cases hx with
    | @ar l v' off len p cap hA =>
      obtain ⟨h1,h2,es,fz,ver,rows,hH,hv,hoff,hf⟩:=hA
      simp only [hH] at h
      split at h
      · rename_i hcond
        obtain ⟨hs,rfl,hlt⟩:=hcond
        cases h
        obtain ⟨h3,_⟩:=hf hs
        cases fz with
        | none =>
          have:=h3 (by omega)
          subst this
          refine ⟨_,run _ _ _ hc hlt,?_⟩
          rw [addr_add]
          exact .elp ⟨_,none,ver,rows,hH,hv,by omega,fun _=>⟨rfl,by rw [Nat.add_mul]; omega⟩⟩
        | some f =>
          have hr:RepP w g.D (.slice p len cap) (.sl ((rows.drop off).take len)):=h3
          cases hr':(rows.drop off).take len with
          | nil =>
            have:((rows.drop off).take len).length = 0:=by rw [hr']; rfl
            simp at this; omega
          | cons r0 rs =>
            rw [hr'] at hr
            cases hr with
            | @sl b o _ _ es' _ cs hn' hc' hes' hD hcell hr2 =>
              refine ⟨_,run _ _ _ hc hlt,?_⟩
              rw [addr_add]
              refine .elp ⟨_,some f,ver,rows,hH,hv,by omega,fun _=>?_⟩
              intro row hrow j x' hx'
              have hrow':(r0 :: rs)[n.toNat]? = some row:=by
                rw [← hr',List.getElem?_take,if_pos hlt,List.getElem?_drop]; exact hrow
              have hx2:row[j]? = some x':=by simpa using hx'
              have hjl:j < es':=by have:=(List.getElem?_eq_some_iff.1 hx2).1; rw [hes' row (List.mem_of_getElem? hrow')] at this; exact this
              have he:es' = ti.size:=by
                obtain ⟨_,hes,_⟩:=hs0.objs _ _ hH
                rw [← hes' row (List.mem_of_getElem? hrow'),hes row (List.mem_of_getElem? hrow)]
              subst he
              exact ⟨hD _ _ hlt hjl,_,hcell _ _ hlt hjl,hr2 _ _ row x' hrow' hx2⟩
      · cases h
    | p hp =>
      cases hp with
      | v=>cases h
      | nsl=>cases h
      | nil=>simp at h
      | h=>cases h
      | sl cs hn' hc' hes' hD hcell hr' =>
        simp only [Option.bind_eq_some_iff] at h
        obtain ⟨row,hrow,h⟩:=h
        split at h
        · rename_i hl; cases h
          exact still _ _ _ _ _ hc (.sl cs hn' hc' hes' hD hcell hr') hrow hl
        · cases h
    | lit hp =>
      simp only [Option.bind_eq_some_iff] at h
      obtain ⟨row,hrow,h⟩:=h
      split at h
      · rename_i hl; cases h
        exact still _ _ _ _ _ hc hp hrow hl
      · cases h
    | _=>cases h
  · cases h
theorem run_idxA {t e:TypeId} {len:Nat} {ti:TypeInfo} {x y:Operand} {u v:AV} {k:IntKind} {n:Int} (ht:P.underlying t = some (.array len e)) (hi:P.info? e = some ti)
    (hx:Rep w g H (a.eval x) u) (hy:Rep w g H (a.eval y) (.p (.v (.int k n)))) (h:idxArr len ti.size u n = some v):RunV P a w g H ⟨dst,.indexAddr t x y,ty,pos,after,gd⟩ v:=by
  unfold idxArr at h
  split at h
  · rename_i hn
    obtain ⟨p,hc,hr⟩:=fadrV_rep hx h
    exact ⟨_,by simp [execOp,Instr.indexAt,hc,hy.val.1,asIntOf,run_underlying ht,hn,Instr.sureAddr,sizeOf,typeInfo,hi],hr⟩
  · cases h
theorem run_idxS {t:TypeId} {x y:Operand} {s:ByteArray} {v:AV} {k:IntKind} {n:Int} (ht:P.underlying t = some .string)
    (hx:Rep w g H (a.eval x) (.p (.v (.string s)))) (hy:Rep w g H (a.eval y) (.p (.v (.int k n)))) (h:idxStr s n = some v):RunV P a w g H ⟨dst,.index t x y,ty,pos,after,gd⟩ v:=by
  unfold idxStr at h
  split at h
  · rename_i hn
    simp only [Option.map_eq_some_iff] at h
    obtain ⟨b,hb,rfl⟩:=h
    exact ⟨.int .u8 b.toNat,by simp [execOp,Instr.index,hx.val.1,hy.val.1,asIntOf,run_underlying ht,hn,hb],.v rfl⟩
  · cases h
theorem run_isAgg {t:TypeId} {d:TypeDesc} (hu:P.underlying t = some d):(isAgg t).run P w = .ok (aggT d) w:=by
  simp only [isAgg,Sem.run_bind,run_underlying hu,Result.andThen_ok]
  cases d <;> rfl
theorem run_idxV {t e:TypeId} {len:Nat} {ti:TypeInfo} {d:TypeDesc} {x y:Operand} {u v:AV} {k:IntKind} {n:Int} (ht:P.underlying t = some (.array len e)) (hi:P.info? e = some ti) (hd:P.underlying e = some d)
    (hx:Rep w g H (a.eval x) u) (hy:Rep w g H (a.eval y) (.p (.v (.int k n)))) (h:idxAgg len (aggT d) ti.size u n = some v) :
    RunV P a w g H ⟨dst,.index t x y,ty,pos,after,gd⟩ v:=by
  generalize hc:a.eval x = c at hx
  generalize hg:aggT d = gg at h
  cases hx with
  | @agg arr as ha h1 hr =>
    simp only [idxAgg] at h
    split at h
    · rename_i hn
      obtain ⟨hn0,hn1,hn2⟩:=hn
      have ix:(execOp a.eval ⟨dst,.index t x y,ty,pos,after,gd⟩).run P w = ((part e arr (n.toNat * ti.size)).run P w).andThen fun r w=>.ok (.value r) w:=by
        simp [execOp,Instr.index,hc,hy.val.1,asIntOf,run_underlying ht,hn0,hn1,sizeOf,typeInfo,hi]
      have hag:=run_isAgg (w:=w) hd
      rw [hg] at hag
      cases gg with
      | true =>
        cases h
        refine ⟨.agg (arr.extract (n.toNat * ti.size) (n.toNat * ti.size + ti.size)),by rw [ix]; simp [part,hag,sizeOf,typeInfo,hi],.agg ?_ (fun i c hi'=>?_) (fun i c y hi' hy'=>?_)⟩
        · simp; omega
        · rw [Array.getElem?_extract] at hi'
          split at hi'
          · exact h1 _ _ hi'
          · cases hi'
        · rw [Array.getElem?_extract] at hi'
          rw [List.getElem?_take] at hy'
          split at hi'
          · split at hy'
            · rw [List.getElem?_drop] at hy'
              exact hr _ _ _ hi' hy'
            · cases hy'
          · cases hi'
      | false =>
        simp only [Bool.false_eq_true,if_false] at h
        split at h
        · have hlt:n.toNat * ti.size < arr.size:=by have:=(List.getElem?_eq_some_iff.1 h).1; omega
          exact ⟨arr[n.toNat * ti.size],by rw [ix]; simp [part,hag,hlt],hr _ _ _ (by simp [hlt]) h⟩
        · cases h
    · cases h
  | _=>simp [idxAgg] at h
theorem run_maxmin {c:Call} {x y:Operand} {mx:Bool} {u v r:Value} (hc:c.callee = .builtin (if mx then .max else .min)) (ha:c.args.toList = [x,y])
    (hx:Rep w g H (a.eval x) (.p (.v u))) (hy:Rep w g H (a.eval y) (.p (.v v))) (h:maxmin mx u v = some r):RunV P a w g H ⟨dst,.call c,ty,pos,after,gd⟩ (.p (.v r)):=by
  have ha':c.args = #[x,y]:=by rw [← Array.toList_inj]; exact ha
  unfold maxmin at h
  split at h
  · split at h
    · rename_i hk
      subst hk
      cases h
      refine ⟨_,?_,.v rfl⟩
      cases mx <;> simp [execOp,resolve,hc,ha',Go.invoke,Go.builtin,Builtin.max_,Builtin.min_,hx.val.1,hy.val.1,Builtin.max2,Builtin.min2]
    · cases h
  · cases h
end
end Go.Proofs.YtjkdcddpicndgaaGreatDoor
namespace Go.Proofs.YtjkdcddpicndgaaGreatDoor
open Go
variable [Sub]
section
variable {P:Program} {w:World} {g:Gh} {H:List Obj}
variable {a:Act} {dst:Option Tmp} {ty:TypeId} {pos:String} {after:Array Edge} {gd:Option (Nat×Bool)}
def BdOk (v:Option Value) (d n:Nat):Prop:=(v = none∧n = d)∨∃ k,v = some (.int k n)
theorem run_bounds {isSlice:Bool} {len cap l h m:Nat} {lo hi mx:Option Value} (hl:BdOk lo 0 l) (hh:BdOk hi len h) (hm:BdOk mx cap m) (hhm:mx.isSome = true→hi.isSome = true)
    (h1:l ≤ h) (h2:h ≤ m) (h3:m ≤ cap):(Instr.sliceBounds isSlice len cap lo hi mx).run P w = .ok (l,h,m) w:=by
  rcases hl with ⟨rfl,rfl⟩ | ⟨kl,rfl⟩ <;> rcases hh with ⟨rfl,rfl⟩ | ⟨kh,rfl⟩ <;> rcases hm with ⟨rfl,rfl⟩ | ⟨km,rfl⟩ <;>
    first
    | (simp at hhm; done)
    | (simp [Instr.sliceBounds,Instr.sliceBound,asIntOf,h1,h2,h3]; done)
theorem run_sliceV {t e:TypeId} {ti:TypeInfo} {x:Operand} {lo hi mx:Option Operand} {p:Option Addr} {len cap l h m:Nat} (ht:P.underlying t = some (.slice e)) (hi':P.info? e = some ti)
    (hc:a.eval x = .slice p len cap) (hl:BdOk (lo.map a.eval) 0 l) (hh:BdOk (hi.map a.eval) len h) (hm:BdOk (mx.map a.eval) cap m) (hhm:mx.isSome = true→hi.isSome = true)
    (h1:l ≤ h) (h2:h ≤ m) (h3:m ≤ cap) :
    (execOp a.eval ⟨dst,.slice t x lo hi mx,ty,pos,after,gd⟩).run P w = .ok (.value (.slice (if m = l then p else p.map (·.add (l * ti.size))) (h - l) (m - l))) w:=by
  have hb:=run_bounds (P:=P) (w:=w) (isSlice:=true) hl hh hm (by simpa using hhm) h1 h2 h3
  simp [execOp,hc,Instr.sliceAt,Instr.slice,run_underlying ht,hb,sizeOf,typeInfo,hi']
theorem sliceAV_rep {p:Option Addr} {n cap es L h:Nat} {mf:Bool} {u v:AV} {H':List Obj} (hs:StRel w g H) (hx:Rep w g H (.slice p n cap) u) (hn:lenOf u = some n)
    (hv:sliceAV H es u L h mf = some (v,H')):L ≤ h∧h ≤ n∧n ≤ cap∧∀ m,(m = if mf then h else cap) →
      ∃ g',Evo w g H w g' H'∧StRel w g' H'∧Rep w g' H' (.slice (if m = L then p else p.map (·.add (L * es))) (h - L) (m - L)) v:=by
  have still:∀ (mf:Bool) (rows:List (List PV)),RepP w g.D (.slice p n cap) (.sl rows)→rows.length = n→n ≤ cap →
      (if L ≤ h∧h ≤ rows.length∧rows.all (fun r=>r.length == es) then some (if mf then AV.lit ((rows.drop L).take (h - L)) else .p (.sl ((rows.drop L).take (h - L))),H) else none) = some (v,H') →
      L ≤ h∧h ≤ n∧n ≤ cap∧∀ m,(m = if mf then h else cap)→∃ g',Evo w g H w g' H'∧StRel w g' H'∧Rep w g' H' (.slice (if m = L then p else p.map (·.add (L * es))) (h - L) (m - L)) v:=fun mf rows hr hl hnc hv=>by
    split at hv
    · rename_i hcond
      obtain ⟨c1,c2,c3⟩:=hcond
      cases hv
      refine ⟨c1,by omega,hnc,fun m hm=>⟨g,.refl _ _ _,hs,?_⟩⟩
      cases mf with
      | true =>
        simp only [if_true] at hm ⊢
        subst hm
        exact .lit (hr.sub (all_len c3) c1 (by omega) m (by omega) (by omega) rfl)
      | false =>
        simp only [Bool.false_eq_true,if_false] at hm ⊢
        subst hm
        exact .p (hr.sub (all_len c3) c1 (by omega) m (by omega) (by omega) rfl)
    · cases hv
  cases hx with
  | p hp =>
    cases hp with
    | v=>cases hn
    | h=>cases hn
    | nsl =>
      simp only [sliceAV] at hv
      split at hv
      · rename_i hcond
        obtain ⟨rfl,rfl⟩:=hcond
        cases hv
        refine ⟨by omega,by omega,by omega,fun m hm=>⟨g,.refl _ _ _,hs,?_⟩⟩
        cases mf <;> simp at hm <;> subst hm <;> exact .p .nsl
      · cases hv
    | nil=>exact still mf _ .nil rfl (Nat.le_refl _) hv
    | sl cs h1 h2 h3 h4 h5 h6=>exact still mf _ (.sl cs h1 h2 h3 h4 h5 h6) h1 h2 hv
  | lit hp =>
    simp only [lenOf,Option.some.injEq] at hn
    rename_i rows
    cases rows with
    | cons r0 rows=>exact still mf _ hp hn (Nat.le_refl _) hv
    | nil =>
      simp only [sliceAV] at hv
      split at hv
      · rename_i hcond
        obtain ⟨rfl,rfl⟩:=hcond
        cases hv
        have hn0:n = 0:=by simpa using hn.symm
        subst hn0
        refine ⟨by omega,by omega,by omega,fun m hm=>⟨g,.refl _ _ _,hs,?_⟩⟩
        have hm0:m = 0:=by rw [hm]; split <;> rfl
        subst hm0
        simpa using .lit hp
      · cases hv
  | @ar l v' off _ _ _ hA =>
    obtain ⟨h1,h2,es',fz,ver,rows,hH,hv',hoff,hf⟩:=id hA
    simp only [sliceAV,hH] at hv
    split at hv
    · rename_i hcond
      obtain ⟨rfl,c1,c2,c3⟩:=hcond
      refine ⟨c1,c2,h1,fun m hm=>?_⟩
      cases mf with
      | false =>
        simp only [Bool.false_eq_true,if_false,Option.some.injEq,Prod.mk.injEq] at hv hm
        obtain ⟨rfl,rfl⟩:=hv
        subst hm
        refine ⟨g,.refl _ _ _,hs,.ar ⟨by omega,?_,es',fz,ver,rows,hH,hv',by omega,fun hsn=>⟨?_,fun e1 e2=>?_,fun e1=>by have:=(hf hsn).2.2 e1; omega⟩⟩⟩
        · rcases h2 with ⟨rfl,rfl⟩ | ⟨b,o,rfl⟩
          · exact .inl ⟨by split <;> rfl,by omega⟩
          · refine .inr ?_
            split
            · exact ⟨b,o,rfl⟩
            · exact ⟨b,o + L * es',by simp [addr_add]⟩
        · obtain ⟨h3,_,_⟩:=hf hsn
          cases fz with
          | none =>
            intro h0
            have:=h3 (by omega)
            subst this
            have hne:¬ m = L:=by omega
            rw [if_neg hne]
            simp only [Option.map_some,addr_add,Nat.add_mul]
            rw [Nat.add_assoc]
          | some f =>
            have h3':RepP w g.D (.slice p n m) (.sl ((rows.drop off).take n)):=h3
            obtain ⟨_,hes,_⟩:=hs.objs _ _ hH
            have:=h3'.sub (l:=L) (h:=h) (cap':=m - L) (es:=es') (fun r hr=>hes r (List.mem_of_mem_drop (List.mem_of_mem_take hr))) c1 c2 m (by omega) (Nat.le_refl _) rfl
            rw [List.drop_take,List.take_take,List.drop_drop,Nat.min_eq_left (by omega)] at this
            exact this
        · obtain ⟨_,h3,_⟩:=hf hsn
          have hL:L = 0:=by omega
          have ho:off = 0:=by omega
          subst hL
          subst ho
          obtain ⟨e4,e5⟩:=h3 e1 rfl
          subst e4
          refine ⟨?_,by omega⟩
          split
          · rfl
          · simp [addr_add]
      | true =>
        simp only [if_true] at hv hm
        subst hm
        split at hv
        · rename_i hsn
          simp only [Option.some.injEq,Prod.mk.injEq] at hv
          obtain ⟨rfl,rfl⟩:=hv
          obtain ⟨g',he,hs'⟩:=evo_freeze [l] hs
          refine ⟨g',he,hs',?_⟩
          have hl:l < H.length:=(List.getElem?_eq_some_iff.1 hH).1
          have hr:=he.rep _ _ (.ar hA)
          cases hr with
          | ar hA' =>
            obtain ⟨_,_,es2,fz2,ver2,rows2,hH2,_,_,hf2⟩:=hA'
            have hfz:∃ f,(freeze H [l])[l]? = some (.arr es' (some f) ver rows)∧seen (some f) ver v' = true:=by
              cases fz with
              | none =>
                refine ⟨ver,by simp only [freeze,hH]; exact List.getElem?_set_self hl,?_⟩
                simp only [seen,beq_iff_eq] at hsn
                simp [seen,hsn]
              | some f=>exact ⟨f,by simp [freeze,hH],hsn⟩
            obtain ⟨f,e1,e2⟩:=hfz
            rw [e1] at hH2
            cases hH2
            obtain ⟨h3,_⟩:=hf2 e2
            have h3':RepP w g'.D (.slice p n cap) (.sl ((rows.drop off).take n)):=h3
            obtain ⟨_,hes,_⟩:=hs.objs _ _ hH
            have:=h3'.sub (l:=L) (h:=m) (cap':=m - L) (es:=es') (fun r hr=>hes r (List.mem_of_mem_drop (List.mem_of_mem_take hr))) c1 c2 m (by omega) (by omega) rfl
            rw [List.drop_take,List.take_take,List.drop_drop,Nat.min_eq_left (by omega)] at this
            exact .lit this
        · cases hv
    · cases hv
  | emp=>simp [sliceAV] at hv
  | csl=>simp [sliceAV] at hv
  | _=>cases hn
def BdA (a:Act) (x:Option Operand) (d n:Int):Prop:=(x = none∧n = d)∨∃ y k,x = some y∧a.eval y = .int k n
theorem BdA.ok {x:Option Operand} {d:Nat} {n:Int} (h:BdA a x d n) (h0:0 ≤ n):BdOk (x.map a.eval) d n.toNat:=by
  rcases h with ⟨rfl,rfl⟩ | ⟨y,k,rfl,h⟩
  · exact .inl ⟨rfl,by omega⟩
  · exact .inr ⟨k,by simp [h,Int.toNat_of_nonneg h0]⟩
theorem sim_slice {t e:TypeId} {ti:TypeInfo} {x:Operand} {lo hi mx:Option Operand} {u v:AV} {l h:Int} {m:Option Int} {n:Nat} {H':List Obj} (hs:StRel w g H)
    (ht:P.underlying t = some (.slice e)) (hi':P.info? e = some ti) (hx:Rep w g H (a.eval x) u) (hn:lenOf u = some n)
    (hl:BdA a lo 0 l) (hh:BdA a hi n h) (hm:(mx = none∧m = none)∨∃ y k m',mx = some y∧m = some m'∧a.eval y = .int k m') (hhm:mx.isSome = true→hi.isSome = true)
    (hv:sliceB H ti.size u l h m = some (v,H')):OpSim P a w g H ⟨dst,.slice t x lo hi mx,ty,pos,after,gd⟩ v H':=by
  unfold sliceB at hv
  split at hv
  · rename_i h0
    obtain ⟨hl0,hh0⟩:=h0
    obtain ⟨p,cap,hc,hncap⟩:=len_rep hx hn
    rw [hc] at hx
    have hL:=hl.ok hl0
    have hH:=hh.ok hh0
    rcases hm with ⟨rfl,rfl⟩ | ⟨y,k,m',rfl,rfl,hy⟩
    · simp only at hv
      obtain ⟨c1,c2,c3,hrep⟩:=sliceAV_rep hs hx hn hv
      obtain ⟨g',e1,e2,e3⟩:=hrep cap rfl
      exact ⟨_,w,g',.inl (run_sliceV ht hi' hc hL hH (.inl ⟨rfl,rfl⟩) hhm c1 (by omega) (Nat.le_refl _)),e1,e2,.inr e3⟩
    · simp only at hv
      split at hv
      · rename_i hmh
        subst hmh
        obtain ⟨c1,c2,c3,hrep⟩:=sliceAV_rep hs hx hn hv
        obtain ⟨g',e1,e2,e3⟩:=hrep _ rfl
        simp only [if_true] at e3
        exact ⟨_,w,g',.inl (run_sliceV ht hi' hc hL hH (.inr ⟨k,by simp [hy,Int.toNat_of_nonneg hh0]⟩) hhm c1 (Nat.le_refl _) (by omega)),e1,e2,.inr e3⟩
      · cases hv
  · cases hv
theorem run_sliceS {t:TypeId} {x:Operand} {lo hi:Option Operand} {s:ByteArray} {l h:Int} (ht:P.underlying t = some .string) (hx:Rep w g H (a.eval x) (.p (.v (.string s))))
    (hl:BdA a lo 0 l) (hh:BdA a hi s.size h) (h0:0 ≤ l) (h1:l ≤ h) (h2:h ≤ s.size):RunV P a w g H ⟨dst,.slice t x lo hi none,ty,pos,after,gd⟩ (.p (.v (.string (s.extract l.toNat h.toNat)))):=by
  have hb:=run_bounds (P:=P) (w:=w) (isSlice:=false) (len:=s.size) (cap:=s.size) (hl.ok h0) (hh.ok (by omega)) (.inl ⟨rfl,rfl⟩) (by simp) (by omega) (by omega) (Nat.le_refl _)
  exact ⟨_,by simp [execOp,hx.val.1,Instr.sliceAt,Instr.slice,run_underlying ht,hb],.v rfl⟩
theorem rows_rep {es:Nat} {c:Value} {v:AV} {ys:List (List PV)} (hs:StRel w g H) (h:Rep w g H c v) (hy:rowsOf H v = some ys) (hes:∀ r ∈ ys,r.length = es) :
    ∃ p cap,c = .slice p ys.length cap∧ys.length ≤ cap∧(0 < ys.length→∃ b o,p = some ⟨b,o,none⟩ ∧
      ∀ (i j:Nat) (row:List PV) (x:PV),ys[i]? = some row→row[j]? = some x→∃ u,cellAt w b (o + i * es + j) = some u∧RepP w g.D u x):=by
  have still:∀ {p:Option Addr} {n cap:Nat} {rows:List (List PV)},RepP w g.D (.slice p n cap) (.sl rows)→(∀ r ∈ rows,r.length = es) →
      ∃ p' cap',Value.slice p n cap = .slice p' rows.length cap'∧rows.length ≤ cap'∧(0 < rows.length→∃ b o,p' = some ⟨b,o,none⟩ ∧
        ∀ (i j:Nat) (row:List PV) (x:PV),rows[i]? = some row→row[j]? = some x→∃ u,cellAt w b (o + i * es + j) = some u∧RepP w g.D u x):=fun {p n cap rows} hr hl=>by
    obtain ⟨h1,h2,h3,h4⟩:=hr.rows hl
    refine ⟨p,cap,by rw [h1],by omega,fun h0=>?_⟩
    obtain ⟨b,o,e,h5⟩:=h4 (by omega)
    exact ⟨b,o,e,fun i j row x a b=>(h5 i j row x a b).2⟩
  cases h with
  | p hp =>
    cases hp with
    | v=>cases hy
    | h=>cases hy
    | nsl=>cases hy; exact ⟨none,0,rfl,Nat.le_refl _,fun h=>by simp at h⟩
    | nil=>cases hy; exact ⟨none,0,rfl,Nat.le_refl _,fun h=>by simp at h⟩
    | sl cs h1 h2 h3 h4 h5 h6=>cases hy; exact still (.sl cs h1 h2 h3 h4 h5 h6) hes
  | lit hp=>cases hy; exact still hp hes
  | @ar l v' off n p cap hA =>
    obtain ⟨h1,h2,es',fz,ver,rows,hH,hv',hoff,hf⟩:=hA
    simp only [rowsOf,hH] at hy
    split at hy
    · rename_i hcond
      obtain ⟨hsn,hle⟩:=hcond
      cases hy
      obtain ⟨h3,_⟩:=hf hsn
      have hlen:((rows.drop off).take n).length = n:=by simp; omega
      cases fz with
      | some f =>
        have:=still (rows:=(rows.drop off).take n) (p:=p) (n:=n) (cap:=cap) h3 hes
        exact this
      | none =>
        refine ⟨p,cap,by rw [hlen],by omega,fun h0=>?_⟩
        have hp:=h3 (by omega)
        obtain ⟨_,hes',_,h5,_⟩:=hs.objs _ _ hH
        refine ⟨_,_,hp,fun i j row x hi hj=>?_⟩
        have hi':rows[off + i]? = some row:=by
          rw [List.getElem?_take] at hi
          split at hi
          · rwa [List.getElem?_drop] at hi
          · cases hi
        have he:es' = es:=by rw [← hes row (List.mem_of_getElem? hi),hes' row (List.mem_of_getElem? hi')]
        subst he
        obtain ⟨u,e1,e2⟩:=h5 (off + i) j row x hi' hj
        exact ⟨u,by rw [← e1,Nat.add_mul]; congr 1; omega,e2⟩
    · cases hy
  | emp=>cases hy; exact ⟨_,_,rfl,Nat.zero_le _,fun h=>by simp at h⟩
  | _=>cases hy
end
end Go.Proofs.YtjkdcddpicndgaaGreatDoor
