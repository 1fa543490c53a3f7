/- Part of the proof of Rows.ProverMiddlesCardSaid: EvO9. -/
import Derived.DeepKeys
import Derived.Laws.IdiomStrings
import Derived.Test.YtepbfecmageleaaGreatDoorP07
set_option linter.all false
namespace Go.Proofs.YtepbfecmageleaaGreatDoor
open Go
variable [Sub]
theorem sameCells_split:∀ {ks ks2:List LK} {xs ys:List Value} {r:Bool},sameCells (ks++ks2) xs ys = some r →
    (sameCells ks xs ys = some false∧r = false)∨(sameCells ks xs ys = some true∧sameCells ks2 (xs.drop ks.length) (ys.drop ks.length) = some r)
  | [],ks2,xs,ys,r,h=>.inr ⟨rfl,by simpa using h⟩
  | k::ks,ks2,xs,ys,r,h=>by
    rw [List.cons_append] at h
    unfold sameCells at h
    split at h
    · rename_i h0; cases h0
    · rename_i h0; cases h0
      split at h
      · rename_i hk
        split at h
        · rename_i hab
          rcases sameCells_split h with ⟨e1,e2⟩ | ⟨e1,e2⟩
          · exact .inl ⟨by simp only [sameCells,if_pos hk,if_pos hab,e1],e2⟩
          · exact .inr ⟨by simp only [sameCells,if_pos hk,if_pos hab,e1],by simpa using e2⟩
        · rename_i hab
          cases h
          exact .inl ⟨by simp only [sameCells,if_pos hk,if_neg hab],rfl⟩
      · cases h
    · rename_i h0; cases h0
      split at h
      · rename_i hab
        rcases sameCells_split h with ⟨e1,e2⟩ | ⟨e1,e2⟩
        · exact .inl ⟨by simp only [sameCells,if_pos hab,e1],e2⟩
        · exact .inr ⟨by simp only [sameCells,if_pos hab,e1],by simpa using e2⟩
      · rename_i hab
        cases h
        exact .inl ⟨by simp only [sameCells,if_neg hab],rfl⟩
    · rename_i h0; cases h0
      split at h
      · rename_i hab
        rcases sameCells_split h with ⟨e1,e2⟩ | ⟨e1,e2⟩
        · exact .inl ⟨by simp only [sameCells,if_pos hab,e1],e2⟩
        · exact .inr ⟨by simp only [sameCells,if_pos hab,e1],by simpa using e2⟩
      · rename_i hab
        cases h
        exact .inl ⟨by simp only [sameCells,if_neg hab],rfl⟩
    · cases h
theorem sameCells_take:∀ {ks:List LK} {xs ys:List Value} {r:Bool} (n:Nat),ks.length ≤ n→sameCells ks xs ys = some r→sameCells ks (xs.take n) (ys.take n) = some r
  | [],xs,ys,r,n,_,h=>by simpa [sameCells] using h
  | k::ks,xs,ys,r,0,hn,h=>by simp at hn
  | k::ks,xs,ys,r,n + 1,hn,h=>by
    simp only [List.length_cons] at hn
    unfold sameCells at h
    split at h
    · rename_i h0; cases h0
    · rename_i h0; cases h0
      split at h
      · rename_i hk
        split at h
        · rename_i hab
          simp only [List.take_succ_cons,sameCells,if_pos hk,if_pos hab,sameCells_take n (by omega) h]
        · rename_i hab
          simp only [List.take_succ_cons,sameCells,if_pos hk,if_neg hab,h]
      · cases h
    · rename_i h0; cases h0
      split at h
      · rename_i hab
        simp only [List.take_succ_cons,sameCells,if_pos hab,sameCells_take n (by omega) h]
      · rename_i hab
        simp only [List.take_succ_cons,sameCells,if_neg hab,h]
    · rename_i h0; cases h0
      split at h
      · rename_i hab
        simp only [List.take_succ_cons,sameCells,if_pos hab,sameCells_take n (by omega) h]
      · rename_i hab
        simp only [List.take_succ_cons,sameCells,if_neg hab,h]
    · cases h
theorem sameCells_one {b:Bool} {xs ys:List Value}:(if b = true then sameCells [] xs ys else some false) = some b:=by cases b <;> rfl
theorem sizeT_cellsOf {P:Program} {t:TypeId} {n:Nat} (h:sizeT P t = some n):∃ i,P.info? t = some i∧i.size = n∧P.cellsOf t = n:=by
  simp only [sizeT,Option.map_eq_some_iff] at h
  obtain ⟨i,hi,rfl⟩:=h
  exact ⟨i,hi,rfl,by simp [Program.cellsOf,hi]⟩
section
variable {P:Program} {w:World}
theorem extract_toList (xs:Array Value) (off n:Nat):(xs.extract off (off + n)).toList = (xs.toList.drop off).take n:=by
  rw [Array.toList_extract]
  simp [List.extract]
theorem run_part_agg {t:TypeId} {d:TypeDesc} {n off:Nat} {xs:Array Value} (hu:P.underlying t = some d) (hd:aggT d = true) (hn:sizeT P t = some n) :
    (part t xs off).run P w = .ok (.agg (xs.extract off (off + n))) w:=by
  obtain ⟨i,hi,hs,_⟩:=sizeT_cellsOf hn
  simp [part,run_isAgg hu,hd,sizeOf,typeInfo,hi,hs]
theorem run_part_one {t:TypeId} {d:TypeDesc} {off:Nat} {xs:Array Value} {v:Value} (hu:P.underlying t = some d) (hd:aggT d = false) (hv:xs[off]? = some v) :
    (part t xs off).run P w = .ok v w:=by
  simp [part,run_isAgg hu,hd,hv]
def EqLeaf (P:Program) (w:World) (D:Nat) (t:TypeId) (ks:List LK):Prop :=
  ∀ (xs ys:Array Value) (off:Nat) (r:Bool),sameCells ks (xs.toList.drop off) (ys.toList.drop off) = some r →
    ∃ a b,(part t xs off).run P w = .ok a w∧(part t ys off).run P w = .ok b w∧(Op.equalIn D t a b).run P w = .ok r w
theorem eqLeaf_fields {D:Nat} {lv:TypeId→Option (List LK)} (ih:∀ t ks,lv t = some ks→EqLeaf P w D t ks) (xs ys:Array Value):∀ (fs:List Field) (n:Nat) (ks:List LK) (r:Bool),leavesFs lv fs n = some ks →
    sameCells ks (xs.toList.drop n) (ys.toList.drop n) = some r→(Op.eqFields D xs ys fs).run P w = .ok r w
  | [],n,ks,r,h,hr=>by
    cases h
    simp only [sameCells,Option.some.injEq] at hr
    subst hr
    simp [Op.eqFields]
  | f::fs,n,ks,r,h,hr=>by
    simp only [leavesFs] at h
    split at h
    · cases h
    · rename_i hc
      rw [not_or,Decidable.not_not] at hc
      obtain ⟨hn,ho⟩:=hc
      simp only [Option.bind_eq_some_iff,Option.map_eq_some_iff] at h
      obtain ⟨l,hl,m,hm,rfl⟩:=h
      rcases sameCells_split hr with ⟨e1,rfl⟩ | ⟨e1,e2⟩
      · obtain ⟨a,b,p1,p2,p3⟩:=ih _ _ hl xs ys n false e1
        rw [← ho] at p1 p2
        simp only [Op.eqFields,hn,ne_eq,not_false_eq_true,if_true,Sem.run_bind,p1,p2,p3,Result.andThen_ok]
        simp
      · rw [List.drop_drop,List.drop_drop] at e2
        obtain ⟨a,b,p1,p2,p3⟩:=ih _ _ hl xs ys n true e1
        have h2:=eqLeaf_fields ih xs ys fs _ m r hm e2
        rw [← ho] at p1 p2
        simp only [Op.eqFields,hn,ne_eq,not_false_eq_true,if_true,Sem.run_bind,p1,p2,p3,Result.andThen_ok]
        simpa using h2
theorem eqLeaf_items {D:Nat} {e:TypeId} {l:List LK} {c:Nat} (ih:EqLeaf P w D e l) (hc:c = l.length) (xs ys:Array Value):∀ (len i:Nat) (r:Bool),
    sameCells (List.replicate len l).flatten (xs.toList.drop (i * c)) (ys.toList.drop (i * c)) = some r→(Op.eqItems D e c xs ys (List.range' i len)).run P w = .ok r w
  | 0,i,r,hr=>by
    simp only [List.replicate_zero,List.flatten_nil,sameCells,Option.some.injEq] at hr
    subst hr
    simp [Op.eqItems]
  | len + 1,i,r,hr=>by
    rw [List.replicate_succ,List.flatten_cons] at hr
    rcases sameCells_split hr with ⟨e1,rfl⟩ | ⟨e1,e2⟩
    · obtain ⟨a,b,p1,p2,p3⟩:=ih xs ys _ false e1
      rw [List.range'_succ]
      simp only [Op.eqItems,Sem.run_bind,p1,p2,p3,Result.andThen_ok]
      simp
    · rw [List.drop_drop,List.drop_drop,← hc,show i * c + c = (i + 1) * c by rw [Nat.add_mul,Nat.one_mul]] at e2
      obtain ⟨a,b,p1,p2,p3⟩:=ih xs ys _ true e1
      have h2:=eqLeaf_items ih hc xs ys len (i + 1) r e2
      rw [List.range'_succ]
      simp only [Op.eqItems,Sem.run_bind,p1,p2,p3,Result.andThen_ok]
      simpa using h2
theorem drop_cons {α:Type} {l:List α} {n:Nat} {x:α} {xs:List α} (h:l.drop n = x::xs):l[n]? = some x:=by
  have:=congrArg (·[0]?) h
  simpa [List.getElem?_drop] using this
mutual
theorem eqLeaf_all:∀ (d:Nat) (t:TypeId) (ks:List LK) (D:Nat),leaves P d t = some ks→EqLeaf P w (D + d) t ks
  | 0,t,ks,D,h=>by simp [leaves] at h
  | d + 1,t,ks,D,h=>by
    intro xs ys off r hr
    have h':=h
    simp only [leaves,Option.bind_eq_some_iff,under] at h
    obtain ⟨td,htd,h⟩:=h
    cases td with
    | int k0 =>
      simp only at h
      split at h
      · cases h
        generalize hx:xs.toList.drop off = lx at hr
        generalize hy:ys.toList.drop off = ly at hr
        unfold sameCells at hr
        split at hr
        · rename_i h0; cases h0
        · rename_i h0; cases h0
          split at hr
          · rename_i hk
            subst hk
            rw [sameCells_one] at hr; simp only [Option.some.injEq] at hr
            subst hr
            have e1:=drop_cons hx
            have e2:=drop_cons hy
            exact ⟨_,_,run_part_one htd rfl (by simpa using e1),run_part_one htd rfl (by simpa using e2),run_equalIn_int w _ t _ _ _ _ htd⟩
          · cases hr
        · rename_i h0; cases h0
        · rename_i h0; cases h0
        · cases hr
      · cases h
    | bool =>
      simp only at h
      split at h
      · cases h
        generalize hx:xs.toList.drop off = lx at hr
        generalize hy:ys.toList.drop off = ly at hr
        unfold sameCells at hr
        split at hr
        · rename_i h0; cases h0
        · rename_i h0; cases h0
        · rename_i h0; cases h0
          rw [sameCells_one] at hr; simp only [Option.some.injEq] at hr
          subst hr
          have e1:=drop_cons hx
          have e2:=drop_cons hy
          exact ⟨_,_,run_part_one htd rfl (by simpa using e1),run_part_one htd rfl (by simpa using e2),run_equalIn_bool' w _ t _ _ htd⟩
        · rename_i h0; cases h0
        · cases hr
      · cases h
    | string =>
      simp only at h
      split at h
      · cases h
        generalize hx:xs.toList.drop off = lx at hr
        generalize hy:ys.toList.drop off = ly at hr
        unfold sameCells at hr
        split at hr
        · rename_i h0; cases h0
        · rename_i h0; cases h0
        · rename_i h0; cases h0
        · rename_i h0; cases h0
          rw [sameCells_one] at hr; simp only [Option.some.injEq] at hr
          subst hr
          have e1:=drop_cons hx
          have e2:=drop_cons hy
          exact ⟨_,_,run_part_one htd rfl (by simpa using e1),run_part_one htd rfl (by simpa using e2),run_equalIn_string w _ t _ _ htd⟩
        · cases hr
      · cases h
    | struct fs =>
      simp only at h
      split at h
      · cases h
      · rename_i hst
        simp only [Option.bind_eq_some_iff] at h
        obtain ⟨l,hl,h⟩:=h
        split at h
        · rename_i hsz
          cases h
          refine ⟨_,_,run_part_agg htd rfl hsz,run_part_agg htd rfl hsz,?_⟩
          have hfs:P.fieldsOf t = fs:=by simp [Program.fieldsOf,htd]
          rw [show D + (d + 1) = (D + d) + 1 from rfl,run_equalIn_struct w (D + d) t _ _ (by rw [hfs]; exact htd) (by simpa using hst),hfs]
          refine eqLeaf_fields (lv:=leaves P d) (fun t ks h=>eqLeaf_all d t ks D h) _ _ fs.toList 0 ks r hl ?_
          rw [extract_toList,extract_toList,List.drop_zero,List.drop_zero]
          exact sameCells_take _ (Nat.le_refl _) hr
        · cases h
    | array len e =>
      simp only [Option.bind_eq_some_iff] at h
      obtain ⟨l,hl,h⟩:=h
      split at h
      · rename_i hsz
        cases h
        obtain ⟨i,hi,_,hc⟩:=sizeT_cellsOf hsz.1
        refine ⟨_,_,run_part_agg htd rfl hsz.2,run_part_agg htd rfl hsz.2,?_⟩
        rw [show D + (d + 1) = (D + d) + 1 from rfl,run_equalIn_array w (D + d) _ _ htd hi,List.range_eq_range',hc]
        refine eqLeaf_items (eqLeaf_all d e l D hl) rfl _ _ len 0 r ?_
        rw [extract_toList,extract_toList,Nat.zero_mul,List.drop_zero,List.drop_zero]
        exact sameCells_take _ (by simp) hr
      · cases h
    | _=>cases h
end
end
section
variable {P:Program} {w:World} {g:Gh} {H:List Obj}
variable {a:Act} {dst:Option Tmp} {ty:TypeId} {pos:String} {after:Array Edge} {gd:Option (Nat×Bool)}
theorem cellVals_get:∀ {cs:List AV} {vs:List Value},cellVals cs = some vs→cs = vs.map fun v=>.p (.v v)
  | [],vs,h=>by cases h; rfl
  | c::cs,vs,h=>by
    unfold cellVals at h
    split at h
    · rename_i h0; cases h0
    · rename_i h0; cases h0
      simp only [Option.map_eq_some_iff] at h
      obtain ⟨r,hr,rfl⟩:=h
      rw [cellVals_get hr]; rfl
    · cases h
theorem aggVals_rep {c:Value} {u:AV} {l:List Value} (hx:Rep w g H c u) (h:aggVals u = some l):∃ A:Array Value,c = .agg A∧A.toList = l:=by
  cases u with
  | agg cs =>
    have hcs:=cellVals_get (cs:=cs) h
    generalize hu:AV.agg cs = u at hx
    cases hx with
    | agg ha h1 hra =>
      cases hu
      rename_i A
      refine ⟨A,rfl,?_⟩
      subst hcs
      refine List.ext_getElem? fun i=>?_
      simp only [List.length_map] at ha
      rcases Nat.lt_or_ge i A.size with hi | hi
      · have hil:i < l.length:=by omega
        have:=hra i A[i] (.p (.v l[i])) (by simp [hi]) (by simp [hil])
        rw [Array.getElem?_toList,Array.getElem?_eq_getElem hi,this.val.1,List.getElem?_eq_getElem hil]
      · rw [Array.getElem?_toList,Array.getElem?_eq_none hi,List.getElem?_eq_none (by omega)]
    | _=>cases hu
  | _=>simp [aggVals] at h
theorem leaves_size {d:Nat} {t:TypeId} {fs:Array Field} {ks:List LK} (ht:P.underlying t = some (.struct fs)) (hk:leaves P (d + 1) t = some ks):sizeT P t = some ks.length:=by
  simp only [leaves,Option.bind_eq_some_iff,under,ht] at hk
  obtain ⟨td,e,hk⟩:=hk
  cases e
  simp only at hk
  split at hk
  · cases hk
  · simp only [Option.bind_eq_some_iff] at hk
    obtain ⟨l,hl,hk⟩:=hk
    split at hk
    · rename_i h; cases hk; exact h
    · cases hk
theorem run_eqs {t:TypeId} {x y:Operand} {yt:TypeId} {op:BinOp} {neg:Bool} {u v:AV} {l m:List Value} {ks:List LK} {r:Bool} {fs:Array Field} (ht:P.underlying t = some (.struct fs)) (hg:P.eqGuardType P.depth t = false)
    (hk:leaves P 10 t = some ks) (hop:op = if neg then .neq else .eql) (hx:Rep w g H (a.eval x) u) (hy:Rep w g H (a.eval y) v) (hl:aggVals u = some l) (hm:aggVals v = some m) (hll:l.length = ks.length) (hml:m.length = ks.length)
    (h:sameCells ks l m = some r):RunV P a w g H ⟨dst,.binOp op t x y yt,ty,pos,after,gd⟩ (.p (.v (.bool (if neg then !r else r)))):=by
  obtain ⟨A,hA,rfl⟩:=aggVals_rep hx hl
  obtain ⟨B,hB,rfl⟩:=aggVals_rep hy hm
  have hn:=leaves_size ht hk
  obtain ⟨p,q,h1,h2,h3⟩:=eqLeaf_all (P:=P) (w:=w) 10 t ks 9990 hk A B 0 r (by simpa using h)
  rw [run_part_agg ht rfl hn] at h1 h2
  cases h1
  cases h2
  have eA:A.extract 0 (0 + ks.length) = A:=by
    rw [Nat.zero_add,← hll,Array.length_toList]; simp
  have eB:B.extract 0 (0 + ks.length) = B:=by
    rw [Nat.zero_add,← hml,Array.length_toList]; simp
  rw [eA,eB] at h3
  have gd:=run_eqGuard_agg (P:=P) w op t x y A B hg
  subst hop
  cases neg
  · refine ⟨.bool r,?_,.v rfl⟩
    simp only [Bool.false_eq_true,if_false] at gd ⊢
    simp [execOp,hA,hB,gd,run_eql_struct,h3]
  · refine ⟨.bool (!r),?_,.v rfl⟩
    simp only [if_true] at gd ⊢
    simp [execOp,hA,hB,gd,run_neq_struct,h3]
theorem run_isnilI {t:TypeId} {ms:Array (String×TypeId)} {x:Operand} {yt:TypeId} {op:BinOp} {neg:Bool} {v:Value} {r:Bool} (ht:P.underlying t = some (.interface ms)) (hop:op = if neg then .neq else .eql)
    (hx:Rep w g H (a.eval x) (.p (.v v))) (h:isNilI v = some r):RunV P a w g H ⟨dst,.binOp op t x (.const .nilIface) yt,ty,pos,after,gd⟩ (.p (.v (.bool (if neg then !r else r)))):=by
  obtain ⟨hv,_⟩:=hx.val
  have he:a.eval (.const .nilIface) = .nilIface:=rfl
  cases v <;> simp [isNilI] at h
  subst h
  have key:∀ d,(Op.equalIn (d + 1) t .nilIface .nilIface).run P w = .ok true w:=fun d=>by
    simp [Op.equalIn,run_underlying ht]
  have hq:(Op.equal t .nilIface .nilIface).run P w = .ok true w:=key 9999
  subst hop
  cases neg
  · refine ⟨.bool true,?_,.v rfl⟩
    simp [execOp,hv,he,eqGuard,Go.binOp,hq]
  · refine ⟨.bool false,?_,.v rfl⟩
    simp [execOp,hv,he,eqGuard,Go.binOp,hq]
def NilKind (k:Nat) (td:TypeDesc) (z:Value):Prop :=
  (k = 0∧(∃ e,td = .pointer e)∧z = .pointer none)∨(k = 1∧(∃ a b c,td = .func a b c)∧z = .nilFunc)∨(k = 2∧(∃ a b,td = .map a b)∧z = .map none)
theorem run_isnilG {k:Nat} {t:TypeId} {td:TypeDesc} {z:Value} {x:Operand} {yt:TypeId} {op:BinOp} {neg:Bool} {u:AV} {r:Bool} (ht:P.underlying t = some td) (hz:NilKind k td z) (hop:op = if neg then .neq else .eql)
    (hx:Rep w g H (a.eval x) u) (h:isNilG k u = some r):RunV P a w g H ⟨dst,.binOp op t x (.const z) yt,ty,pos,after,gd⟩ (.p (.v (.bool (if neg then !r else r)))):=by
  have he:a.eval (.const z) = z:=rfl
  have fin:∀ c:Value,a.eval x = c→(∀ n,(Op.equalIn (n + 1) t c z).run P w = .ok r w)→(∀ b:Bool,(execOp a.eval ⟨dst,.binOp (if b then .neq else .eql) t x (.const z) yt,ty,pos,after,gd⟩).run P w = ((Op.equal t c z).run P w).andThen fun q w'=>.ok (.value (.bool (if b then !q else q))) w') →
      RunV P a w g H ⟨dst,.binOp op t x (.const z) yt,ty,pos,after,gd⟩ (.p (.v (.bool (if neg then !r else r)))):=fun c hc h1 h2=>by
    have hq:(Op.equal t c z).run P w = .ok r w:=h1 9999
    refine ⟨.bool (if neg then !r else r),?_,.p (.v rfl)⟩
    rw [hop,h2,hq]
    rfl
  unfold isNilG at h
  rcases hz with ⟨rfl,⟨e,rfl⟩,rfl⟩ | ⟨rfl,⟨a1,b1,c1,rfl⟩,rfl⟩ | ⟨rfl,⟨a1,b1,rfl⟩,rfl⟩
  · split at h <;> first | (cases h; done) | skip
    all_goals first | (rename_i h0; cases h0; done) | skip
    all_goals cases h
    all_goals generalize hc:a.eval x = c at hx
    · have:=hx.val.1; subst this
      exact fin _ hc (fun n=>by simp [Op.equalIn,run_underlying ht]) (fun b=>by cases b <;> simp [execOp,hc,he,eqGuard,Go.binOp])
    · cases hx
      exact fin _ hc (fun n=>by simp [Op.equalIn,run_underlying ht]) (fun b=>by cases b <;> simp [execOp,hc,he,eqGuard,Go.binOp])
    · cases hx
      exact fin _ hc (fun n=>by simp [Op.equalIn,run_underlying ht]) (fun b=>by cases b <;> simp [execOp,hc,he,eqGuard,Go.binOp])
    · cases hx
      exact fin _ hc (fun n=>by simp [Op.equalIn,run_underlying ht]) (fun b=>by cases b <;> simp [execOp,hc,he,eqGuard,Go.binOp])
  · split at h <;> first | (cases h; done) | skip
    all_goals first | (rename_i h0; cases h0; done) | skip
    all_goals cases h
    all_goals generalize hc:a.eval x = c at hx
    · have:=hx.val.1; subst this
      exact fin _ hc (fun n=>by simp [Op.equalIn,run_underlying ht]) (fun b=>by cases b <;> simp [execOp,hc,he,eqGuard,Go.binOp])
    · cases hx
      exact fin _ hc (fun n=>by simp [Op.equalIn,run_underlying ht]) (fun b=>by cases b <;> simp [execOp,hc,he,eqGuard,Go.binOp])
  · split at h <;> first | (cases h; done) | skip
    all_goals first | (rename_i h0; cases h0; done) | skip
    all_goals cases h
    all_goals generalize hc:a.eval x = c at hx
    · have:=hx.val.1; subst this
      exact fin _ hc (fun n=>by simp [Op.equalIn,run_underlying ht]) (fun b=>by cases b <;> simp [execOp,hc,he,eqGuard,Go.binOp])
    · cases hx
      exact fin _ hc (fun n=>by simp [Op.equalIn,run_underlying ht]) (fun b=>by cases b <;> simp [execOp,hc,he,eqGuard,Go.binOp])
theorem capNil_rep {c:Value} {u:AV} {n:Nat} (hx:Rep w g H c u) (h:capNil u = some n):∃ p len,c = .slice p len n:=by
  cases u with
  | p pv =>
    cases pv with
    | nsl=>cases h; generalize hu:AV.p .nsl = u at hx; cases hx with
      | p hp=>cases hu; cases hp; exact ⟨_,_,rfl⟩
      | _=>cases hu
    | v=>cases h
    | h=>cases h
    | sl=>cases h
  | lit rows =>
    simp only [capNil,Option.some.injEq] at h
    subst h
    generalize hu:AV.lit rows = u at hx
    cases hx with
    | lit hp =>
      cases hu
      cases hp with
      | nil=>exact ⟨_,_,rfl⟩
      | sl cs hn _ _ _ _ _=>rw [← hn]; exact ⟨_,_,rfl⟩
    | _=>cases hu
  | _=>cases h
theorem run_cap {c:Call} {x:Operand} {t e:TypeId} {v:AV} {n:Nat} (hc:c.callee = .builtin .cap) (ha:c.args.toList = [x]) (ht:c.argTypes[0]? = some t) (hu:P.underlying t = some (.slice e))
    (hx:Rep w g H (a.eval x) v) (hn:capNil v = some n):RunV P a w g H ⟨dst,.call c,ty,pos,after,gd⟩ (.p (.v (.int .i64 n))):=by
  obtain ⟨p,len,hv⟩:=capNil_rep hx hn
  have ha':c.args = #[x]:=by rw [← Array.toList_inj]; exact ha
  exact ⟨.int .i64 n,by simp [execOp,resolve,hc,ha',Go.invoke,Go.builtin,Builtin.cap_,ht,run_underlying hu,hv,goInt],.v rfl⟩
theorem run_sliceArr {t e:TypeId} {len:Nat} {ti:TypeInfo} {x:Operand} {lo hi:Option Operand} {u v:AV} {l h:Int} (ht:P.underlying t = some (.array len e)) (hi':P.info? e = some ti) (hsz:ti.size = 1)
    (hx:Rep w g H (a.eval x) u) (hl:BdA a lo 0 l) (hh:BdA a hi len h) (hv:sliceArrV len u l h = some v):RunV P a w g H ⟨dst,.slice t x lo hi none,ty,pos,after,gd⟩ v:=by
  cases u with
  | ptr r off =>
    simp only [sliceArrV] at hv
    split at hv
    · rename_i hc
      obtain ⟨c1,c2,c3,c4⟩:=hc
      cases hv
      generalize hcx:a.eval x = cx at hx
      cases hx with
      | ptr hH =>
        rename_i c
        have hb:=run_bounds (P:=P) (w:=w) (isSlice:=false) (len:=len) (cap:=len) (mx:=none) (m:=len) (hl.ok (d:=0) c1) (hh.ok (d:=len) (by omega)) (.inl ⟨rfl,rfl⟩) (by simp) (by omega) (by omega) (Nat.le_refl _)
        have hne:¬ len = l.toNat:=by omega
        refine ⟨.slice (some ⟨g.blk r,off + l.toNat,none⟩) (h.toNat - l.toNat) (len - l.toNat),?_,.csl hH (by omega)⟩
        simp [execOp,hcx,Instr.sliceAt,run_underlying ht,Instr.sureAddr,hb,sizeOf,typeInfo,hi',hne,hsz,addr_add]
    · cases hv
  | _=>simp [sliceArrV] at hv
theorem sim_s2b {s d e:TypeId} {x:Operand} {t:ByteArray} (hs0:StRel w g H) (hs:P.underlying s = some .string) (hd:P.underlying d = some (.slice e)) (he:P.underlying e = some (.int .u8)) (hx:Rep w g H (a.eval x) (.p (.v (.string t)))) :
    OpSim P a w g H ⟨dst,.convert s d x,ty,pos,after,gd⟩ (.p (.sl (strRows t))) H:=by
  have hr:=run_bytes_of_string (P:=P) w s d e t hs hd he
  have hge:=grownCap_ge w t.size 0 e
  have hp:Pushed w (w.drew.alloc (.cells (bytesRow t (grownCap w t.size 0 e)) e ((bytesRow t (grownCap w t.size 0 e)).size,(bytesRow t (grownCap w t.size 0 e)).size + 1))) (.cells (bytesRow t (grownCap w t.size 0 e)) e ((bytesRow t (grownCap w t.size 0 e)).size,(bytesRow t (grownCap w t.size 0 e)).size + 1)):=⟨rfl,rfl,rfl,⟨rfl,by first | exact Nat.le_refl _ | exact Nat.le_succ _⟩⟩
  obtain ⟨e1,e2⟩:=evo_lit hp hs0
  refine ⟨.slice (some ⟨w.heap.size,0,none⟩) t.size (grownCap w t.size 0 e),_,_,.inl (by simp [execOp,hx.val.1,hr]),e1,e2,.inr (.p (RepP.of_rows (es:=1) (by simp [strRows]) hge (by simp [strRows]) (fun i j row v hi hj=>⟨.inr rfl,?_⟩)))⟩
  simp only [strRows,List.getElem?_map,Option.map_eq_some_iff,Array.getElem?_toList] at hi
  obtain ⟨b,hb,rfl⟩:=hi
  cases j with
  | succ j=>simp at hj
  | zero =>
    simp at hj
    subst hj
    obtain ⟨hlt,rfl⟩:=Array.getElem?_eq_some_iff.1 hb
    refine ⟨_,?_,.v rfl⟩
    rw [cellAt_cells hp.new]
    simpa using bytesRow_at t _ i hlt
theorem run_append_zeros {t tn ty e:TypeId} {i:TypeInfo} {z:Value} {k j:IntKind} (ht:P.underlying t = some (.slice e)) (htn:P.underlying tn = some (.int k)) (hi:P.info? e = some i) (hz:i.zero = some z)
    (q:Option Addr) (n:Nat) (h0:0 < n) (h48:n * i.bytes ≤ 140737488355328) (hb:i.bytes ≠ 0) (hzs:z.cells.size = i.size) (hs0:i.size ≠ 0) :
    (Builtin.append_ #[t,tn] ty #[.slice q 0 0,.int j n]).run P w =
      .ok (.slice (some ⟨w.heap.size,0,none⟩) n (grownCap w n 0 e)) (w.drew.alloc (.cells (Builtin.zeroCells z.cells n++Builtin.zeroCells z.cells (grownCap w n 0 e - n)) e)):=by
  have hle:n ≤ n * i.bytes:=by
    have:n * 1 ≤ n * i.bytes:=Nat.mul_le_mul_left _ (by omega)
    omega
  have hw:IntKind.i64.wrap (n:Int) = n:=by
    rw [show IntKind.i64.wrap (n:Int) = ((n:Int) + 9223372036854775808) % 18446744073709551616 - 9223372036854775808 by simp [IntKind.wrap,IntKind.bits,IntKind.signed]; split <;> omega]
    omega
  have hn:n ≠ 0:=by omega
  have h63':¬ (9223372036854775807 < (n:Int)):=by omega
  have h48':¬ (281474976710656 < Builtin.nextslicecap n 0 * i.bytes):=by rw [nextslicecap_zero h0]; omega
  have h48'':¬ (281474976710656 < (n:Int) * (i.bytes:Int)):=by
    have h1:=Int.ofNat_le.2 h48
    rw [Int.natCast_mul] at h1
    omega
  have hnn:¬ ((n:Int) < 0):=by omega
  have hnn2:¬ (n:Int) ≤ -1:=by omega
  have hfo:∀ w':World,(Builtin.firstCells i.size 0 (.slice q 0 0)).run P w' = .ok #[] w':=fun w'=>by
    cases q <;> simp [Builtin.firstCells,loadCells,loadCellsFrom]
  have hai:∀ w':World,(Go.asInt (.int j (n:Int))).run P w' = .ok (n:Int) w':=fun _=>rfl
  simp [Builtin.append_,run_underlying ht,run_underlying htn,sizeOf,typeInfo,zeroValue,hi,hz,hai,hw,hnn,hn,h63',h48',h48'',Question.forced,hfo,newRow,grownCap,hs0]
  intro h
  rcases Nat.mul_eq_zero.1 h with h | h
  · omega
  · exact absurd h hs0
theorem zeroCells_get {z:Array Value} {n size i j:Nat} (hz:z.size = size) (hi:i < n) (hj:j < size):(Builtin.zeroCells z n)[i * size + j]? = z[j]?:=by
  subst hz
  exact madeCells_get rfl hi hj
theorem sim_append_ar {o:Oper} {l es ver:Nat} {fz:Option Nat} {rows ys:List (List PV)} {xv:Value} {news:List Value} {e:TypeId} {z:Value} (hs:StRel w g H) (hH:H[l]? = some (.arr es fz ver rows)) (hx:Rep w g H xv (.ar l ver 0 rows.length))
    (hes:∀ r ∈ ys,r.length = es) (hnews:News w g.D es ys news) (hzs:z.cells.size = es)
    (hroom:∀ (b of cap:Nat) (cur:Array Value) (te:TypeId),xv = .slice (some ⟨b,of,none⟩) rows.length cap→w.heap[b]? = some (.cells cur te (0,0))→rows.length + ys.length ≤ cap→of + rows.length * es + news.length ≤ cur.size →
      (execOp a.eval o).run P w = .ok (.value (.slice (some ⟨b,of,none⟩) (rows.length + ys.length) cap)) (w.setRow b (cur.toList.take (of + rows.length * es)++news++cur.toList.drop (of + rows.length * es + news.length)).toArray))
    (hgrow:∀ (b:Addr) (cap:Nat) (olds:List Value),xv = .slice (some b) rows.length cap→olds.length = rows.length * es→(∀ k u,olds[k]? = some u→w.cell? (b.add k) = some u)→cap < rows.length + ys.length →
      (execOp a.eval o).run P w = .ok (.value (.slice (some ⟨w.heap.size,0,none⟩) (rows.length + ys.length) (grownCap w (rows.length + ys.length) cap e)))
        (w.drew.alloc (.cells ((olds++news).toArray++Builtin.zeroCells z.cells (grownCap w (rows.length + ys.length) cap e - (rows.length + ys.length))) e))) :
    OpSim P a w g H o (.ar l (ver + 1) 0 (rows.length + ys.length)) (H.set l (.arr es fz (ver + 1) (rows++ys))):=by
  obtain ⟨p,cap,hxv,hA⟩:=hx.ar_inv
  obtain ⟨h1,h2,es2,fz2,ver2,rows2,hH2,_,_,hf⟩:=hA
  rw [hH] at hH2
  cases hH2
  have hsn:seen fz ver ver = true:=by
    have:=hs.stand l _ hH
    cases fz with
    | none=>simp [seen]
    | some f=>simpa [seen] using this.1
  obtain ⟨_,hf2,_⟩:=hf hsn
  obtain ⟨rfl,rfl⟩:=hf2 rfl rfl
  have hlt:l < H.length:=(List.getElem?_eq_some_iff.1 hH).1
  have hself:(H.set l (.arr es fz (ver + 1) (rows++ys)))[l]? = some (.arr es fz (ver + 1) (rows++ys)):=List.getElem?_set_self hlt
  have hlen:(rows++ys).length = rows.length + ys.length:=List.length_append
  by_cases hr:rows.length + ys.length ≤ g.cap l
  · obtain ⟨vs,te,g',b1,b2,b3,b4,b5,b6,b7⟩:=evo_room hs hH hes hnews hr
    refine ⟨.slice (some ⟨g.blk l,g.base l,none⟩) (rows.length + ys.length) (g.cap l),_,g',.inl (hroom _ _ _ _ _ hxv b1 hr b2),b3,b4,.inr ?_⟩
    have:=ar_whole b4 hself
    rwa [b5,b6,b7,hlen] at this
  · obtain ⟨_,hesx,_,h5,_⟩:=hs.objs _ _ hH
    obtain ⟨olds,ho1,ho2⟩:=news_of hesx h5
    have hrun:=hgrow _ _ olds hxv ho1.1 ho2 (by omega)
    have hge:=grownCap_ge w (rows.length + ys.length) (g.cap l) e
    obtain ⟨r1,r2⟩:=grown_rows (cap:=grownCap w (rows.length + ys.length) (g.cap l) e) (ho1.append hnews) hzs (by rw [hlen]; exact hge)
    rw [hlen] at r1 r2
    obtain ⟨g',b3,b4,b5,b6,b7,_⟩:=evo_grow hs hH (w':=w.drew.alloc (.cells ((olds++news).toArray++Builtin.zeroCells z.cells (grownCap w (rows.length + ys.length) (g.cap l) e - (rows.length + ys.length))) e)) ⟨rfl,rfl,rfl,⟨rfl,Nat.le_succ _⟩⟩ hes hge r1 r2
    refine ⟨_,_,g',.inl hrun,b3,b4,.inr ?_⟩
    have:=ar_whole b4 hself
    rwa [b5,b6,b7,hlen] at this
section
variable {t tn ty e:TypeId} {i:TypeInfo} {z:Value} {k j:IntKind} (ht:P.underlying t = some (.slice e)) (htn:P.underlying tn = some (.int k)) (hi:P.info? e = some i) (hz:i.zero = some z)
    (m:Nat) (h0:0 < m) (h48:m * i.bytes ≤ 140737488355328) (hb:i.bytes ≠ 0) (hs0:i.size ≠ 0)
include ht htn hi hz h0 h48 hb hs0
theorem run_appendZ_room {b o sLen sCap:Nat} {cur:Array Value} {te:TypeId} (hg:w.heap[b]? = some (.cells cur te (0,0))) (h1:∀ u ∈ (Builtin.zeroCells z.cells m).toList,u.oneCell' = true)
    (hroom:sLen + m ≤ sCap) (hfit:o + sLen * i.size + (Builtin.zeroCells z.cells m).toList.length ≤ cur.size) :
    (Builtin.append_ #[t,tn] ty #[.slice (some ⟨b,o,none⟩) sLen sCap,.int j m]).run P w =
      .ok (.slice (some ⟨b,o,none⟩) (sLen + m) sCap) (w.setRow b (cur.toList.take (o + sLen * i.size)++(Builtin.zeroCells z.cells m).toList++cur.toList.drop (o + sLen * i.size + (Builtin.zeroCells z.cells m).toList.length)).toArray):=by
  have hle:m ≤ m * i.bytes:=by
    have:m * 1 ≤ m * i.bytes:=Nat.mul_le_mul_left _ (by omega)
    omega
  have hw:IntKind.i64.wrap (m:Int) = m:=by
    rw [show IntKind.i64.wrap (m:Int) = ((m:Int) + 9223372036854775808) % 18446744073709551616 - 9223372036854775808 by simp [IntKind.wrap,IntKind.bits,IntKind.signed]; split <;> omega]
    omega
  have h48'':¬ (281474976710656 < (m:Int) * (i.bytes:Int)):=by
    have h1:=Int.ofNat_le.2 h48
    rw [Int.natCast_mul] at h1
    omega
  have hnn:¬ ((m:Int) < 0):=by omega
  have hai:∀ w':World,(Go.asInt (.int j (m:Int))).run P w' = .ok (m:Int) w':=fun _=>rfl
  have hm0:¬ (m = 0∨i.size = 0):=by omega
  have hm1:¬ (m * i.size = 0):=Nat.mul_ne_zero (by omega) hs0
  have hst:=run_storeCells_at P b (o + sLen * i.size) te (Builtin.zeroCells z.cells m).toList 0 cur w hg (by simpa using hfit) h1
  simp only [Nat.add_zero] at hst
  simp [Builtin.append_,run_underlying ht,run_underlying htn,sizeOf,typeInfo,zeroValue,hi,hz,hai,hw,hnn,h48'',hroom,hm0,hm1,addr_add,hst]
theorem run_appendZ_grow {b:Addr} {sLen sCap:Nat} {olds:List Value} (hlo:olds.length = sLen * i.size) (holds:∀ j v,olds[j]? = some v→w.cell? (b.add j) = some v) (hg:sCap < sLen + m)
    (h63:((sLen + m:Nat):Int) ≤ 9223372036854775807) (hfit:Builtin.nextslicecap (sLen + m) sCap * i.bytes ≤ 281474976710656) :
    (Builtin.append_ #[t,tn] ty #[.slice (some b) sLen sCap,.int j m]).run P w =
      .ok (.slice (some ⟨w.heap.size,0,none⟩) (sLen + m) (grownCap w (sLen + m) sCap e))
        (w.drew.alloc (.cells ((olds++(Builtin.zeroCells z.cells m).toList).toArray++Builtin.zeroCells z.cells (grownCap w (sLen + m) sCap e - (sLen + m))) e)):=by
  have hle:m ≤ m * i.bytes:=by
    have:m * 1 ≤ m * i.bytes:=Nat.mul_le_mul_left _ (by omega)
    omega
  have hw:IntKind.i64.wrap (m:Int) = m:=by
    rw [show IntKind.i64.wrap (m:Int) = ((m:Int) + 9223372036854775808) % 18446744073709551616 - 9223372036854775808 by simp [IntKind.wrap,IntKind.bits,IntKind.signed]; split <;> omega]
    omega
  have h48'':¬ (281474976710656 < (m:Int) * (i.bytes:Int)):=by
    have h1:=Int.ofNat_le.2 h48
    rw [Int.natCast_mul] at h1
    omega
  have hnn:¬ ((m:Int) < 0):=by omega
  have hai:∀ w':World,(Go.asInt (.int j (m:Int))).run P w' = .ok (m:Int) w':=fun _=>rfl
  have hm0:¬ (m = 0∨i.size = 0):=by omega
  have hm1:¬ (m * i.size = 0):=Nat.mul_ne_zero (by omega) hs0
  have hn:¬ (sLen + m ≤ sCap):=by omega
  have h63':¬ (9223372036854775807 < ((sLen:Int) + (m:Int))):=by omega
  have h48':¬ (281474976710656 < Builtin.nextslicecap (sLen + m) sCap * i.bytes):=by omega
  have hfo:=run_firstCells_some (P:=P) w.drew i.size sLen b sLen sCap olds hlo (by simpa using holds)
  simp [Builtin.append_,run_underlying ht,run_underlying htn,sizeOf,typeInfo,zeroValue,hi,hz,hai,hw,hnn,h48'',hn,h63',h48',hm0,hm1,Question.forced,hfo,newRow,grownCap]
  congr 2
  apply Array.ext'
  simp [List.append_assoc]
end
theorem news_zeros {z:Value} {zero:List PV} {m:Nat} (hzl:z.cells.size = zero.length) (hzr:∀ (D:Nat→Nat→Prop) (j:Nat) (c:Value) (x:PV),z.cells[j]? = some c→zero[j]? = some x→RepP w D c x) (h1:∀ (j:Nat) (c:Value),z.cells[j]? = some c→c.oneCell' = true) :
    News w g.D zero.length (List.replicate m zero) (Builtin.zeroCells z.cells m).toList:=by
  refine ⟨by rw [Array.length_toList,size_zeroCells,hzl]; simp,fun u hu=>?_,fun i j row x hrow hx=>?_⟩
  · obtain ⟨q,hq,rfl⟩:=List.mem_iff_getElem.1 hu
    have hq':q < m * z.cells.size:=by simpa [size_zeroCells] using hq
    have hpos:0 < z.cells.size:=by
      rcases Nat.eq_zero_or_pos z.cells.size with h | h
      · rw [h] at hq'; simp at hq'
      · exact h
    have hlt:q % z.cells.size < z.cells.size:=Nat.mod_lt _ hpos
    have:(Builtin.zeroCells z.cells m)[q]? = some (z.cells[q % z.cells.size]):=by
      simp [Builtin.zeroCells,hq',hlt]
    rw [Array.getElem_toList]
    have e:=Array.getElem?_eq_getElem (xs:=Builtin.zeroCells z.cells m) (i:=q) (by simpa using hq)
    rw [e] at this
    rw [Option.some.inj this]
    exact h1 (q % z.cells.size) _ (by simp [hlt])
  · rw [List.getElem?_replicate] at hrow
    split at hrow
    · rename_i hin
      cases hrow
      have hj:j < zero.length:=(List.getElem?_eq_some_iff.1 hx).1
      have hjz:j < z.cells.size:=by omega
      refine ⟨z.cells[j],?_,hzr _ j _ _ (by simp [hjz]) hx⟩
      rw [Array.getElem?_toList,zeroCells_get hzl hin hj]
      simp [hjz]
    · cases hrow
theorem sim_appendZ {kn:TypeId→Bool} {c:Call} {x y:Operand} {t tn e:TypeId} {ti:TypeInfo} {zero:List PV} {k j:IntKind} {u v:AV} {n:Int} {H':List Obj} (hs:StRel w g H) (hc:c.callee = .builtin .append) (ha:c.args.toList = [x,y]) (hat:c.argTypes.toList = [t,tn])
    (ht:P.underlying t = some (.slice e)) (htn:P.underlying tn = some (.int k)) (hi:P.info? e = some ti) (hz:zeroP P kn e = some zero) (hl:zero.length = ti.size) (hb:ti.bytes ≠ 0) (hs0:ti.size ≠ 0)
    (hx:Rep w g H (a.eval x) u) (hy:Rep w g H (a.eval y) (.p (.v (.int j n)))) (h:appendZV H ti.bytes zero u n = some (v,H')):OpSim P a w g H ⟨dst,.call c,ty,pos,after,gd⟩ v H':=by
  unfold appendZV at h
  split at h
  · rename_i hcond
    obtain ⟨c1,c2,c3⟩:=hcond
    cases h
    obtain ⟨i,z,hi',hz',hzl,hzr⟩:=zeroP_rep (w:=w) hz
    rw [hi] at hi'
    cases hi'
    obtain ⟨q,hq⟩:∃ q,a.eval x = .slice q 0 0:=by
      generalize hcx:a.eval x = cx at hx
      cases hx with
      | p hp =>
        cases hp with
        | nsl=>exact ⟨_,rfl⟩
        | v=>simp [emptyNow] at c1
        | h=>simp [emptyNow] at c1
        | nil=>simp [emptyNow] at c1
        | sl=>simp [emptyNow] at c1
      | lit hp =>
        rename_i q m rows
        cases rows with
        | nil =>
          cases hp with
          | nil=>exact ⟨_,rfl⟩
          | sl cs hn=>cases hn; exact ⟨_,rfl⟩
        | cons=>simp [emptyNow] at c1
      | _=>simp [emptyNow] at c1
    obtain ⟨m,rfl⟩:∃ m:Nat,n = m:=⟨n.toNat,by omega⟩
    simp only [Int.toNat_natCast] at c3 ⊢
    have hr:=run_append_zeros (P:=P) (w:=w) (ty:=ty) (j:=j) ht htn hi hz' q m (by omega) c3 hb (by omega) hs0
    have hge:=grownCap_ge w m 0 e
    have ha':c.args = #[x,y]:=by rw [← Array.toList_inj]; exact ha
    have hat':c.argTypes = #[t,tn]:=by rw [← Array.toList_inj]; exact hat
    have hlen:(List.replicate m zero).length = m:=by simp
    have:=sim_newArr (P:=P) (a:=a) (o:=⟨dst,.call c,ty,pos,after,gd⟩) (rows:=List.replicate m zero) (es:=zero.length) (cap:=grownCap w m 0 e)
      (w':=w.drew.alloc (.cells (Builtin.zeroCells z.cells m++Builtin.zeroCells z.cells (grownCap w m 0 e - m)) e)) hs
      (by rw [hlen]; simp [execOp,resolve,hc,ha',hat',Go.invoke,Go.builtin,hq,hy.val.1,hr]) ⟨rfl,rfl,rfl,⟨rfl,by first | exact Nat.le_refl _ | exact Nat.le_succ _⟩⟩ (by rw [hlen]; exact hge) (fun r hr=>by simp at hr; rw [hr.2])
      (by rw [Array.size_append,size_zeroCells,size_zeroCells,← Nat.add_mul,hzl]; exact Nat.mul_le_mul_right _ (by omega)) (fun i j row x hrow hx'=>by
        rw [List.getElem?_replicate] at hrow
        split at hrow
        · rename_i hin
          cases hrow
          have hj:j < zero.length:=(List.getElem?_eq_some_iff.1 hx').1
          have hjz:j < z.cells.size:=by omega
          have hlt:i * zero.length + j < (Builtin.zeroCells z.cells m).size:=by
            rw [size_zeroCells,hzl]
            have:=row_fit (es:=zero.length) hin
            omega
          refine ⟨z.cells[j],?_,hzr _ j _ _ (by simp [hjz]) hx'⟩
          rw [Array.getElem?_append_left hlt,zeroCells_get hzl hin hj]
          simp [hjz]
        · cases hrow)
    rwa [hlen] at this
  · split at h
    · rename_i l v' len
      split at h
      · rename_i es fz ver rows hH
        split at h
        · rename_i hcond
          obtain ⟨rfl,rfl,rfl,c2,c3⟩:=hcond
          cases h
          obtain ⟨i,z,hi',hz',hzl,hzr⟩:=zeroP_rep (w:=w) hz
          rw [hi] at hi'
          cases hi'
          obtain ⟨m,rfl⟩:∃ m:Nat,n = m:=⟨n.toNat,by omega⟩
          simp only [Int.toNat_natCast] at c3 ⊢
          have hm:0 < m:=by omega
          have ha':c.args = #[x,y]:=by rw [← Array.toList_inj]; exact ha
          have hat':c.argTypes = #[t,tn]:=by rw [← Array.toList_inj]; exact hat
          have hone:∀ (j:Nat) (c:Value),z.cells[j]? = some c→c.oneCell' = true:=fun j c hc=>by
            unfold zeroP at hz
            rw [hi] at hz
            simp only [Option.bind_some,hz'] at hz
            obtain ⟨q1,q2⟩:=mapM_some hz
            have hj:j < z.cells.size:=(Array.getElem?_eq_some_iff.1 hc).1
            have:=q2 j c (zero[j]'(by simp at q1; omega)) (by simpa using hc) (by simp)
            unfold cvtP at this
            split at this <;> first | rfl | (cases this; done) | skip
            cases c <;> first | rfl | simp_all
          have hn:=news_zeros (w:=w) (g:=g) (m:=m) hzl hzr hone
          have hb1:m * ti.bytes ≤ (rows.length + m) * ti.bytes:=Nat.mul_le_mul_right _ (by omega)
          have hb2:(rows.length + m) * 1 ≤ (rows.length + m) * ti.bytes:=Nat.mul_le_mul_left _ (by omega)
          have hrl:(List.replicate m zero).length = m:=by simp
          have:=sim_append_ar (P:=P) (a:=a) (o:=⟨dst,.call c,ty,pos,after,gd⟩) (xv:=a.eval x) (e:=e) (z:=z) (ys:=List.replicate m zero) hs hH hx (fun r hr=>by simp at hr; rw [hr.2]) hn hzl
            (fun b of cap cur te hxv hcur hroom hfit=>by
              rw [hl] at hfit ⊢
              rw [hrl] at hroom ⊢
              have hr:=run_appendZ_room (P:=P) (ty:=ty) (j:=j) ht htn hi hz' m hm (by omega) hb hs0 hcur hn.2.1 hroom hfit
              simp only [execOp,resolve,hc,ha',hat',Go.invoke,Go.builtin]
              simp [hxv,hy.val.1,hr])
            (fun b cap olds hxv hlo holds hlt=>by
              rw [hl] at hlo
              rw [hrl] at hlt ⊢
              have hr:=run_appendZ_grow (P:=P) (w:=w) (ty:=ty) (j:=j) ht htn hi hz' m hm (by omega) hb hs0 hlo holds hlt (by omega) (growslice_fits (by omega) c3)
              simp only [execOp,resolve,hc,ha',hat',Go.invoke,Go.builtin]
              simp [hxv,hy.val.1,hr])
          rwa [hrl] at this
        · cases h
      · cases h
    · cases h
end
end Go.Proofs.YtepbfecmageleaaGreatDoor
