/- Part of the proof of Rows.ProverMiddlesCardSaid: EvOm. -/
import Derived.Test.YtepbfecmageleaaGreatDoorP08
set_option linter.all false
namespace Go.Proofs.YtepbfecmageleaaGreatDoor
open Go
variable [Sub]
section
variable {P:Program} {w:World}
def ChkLeaf (P:Program) (w:World) (em:Bool) (dd:Nat) (t:TypeId) (n:Nat):Prop :=
  ∀ (xs:Array Value) (off:Nat),off + n ≤ xs.size→∃ a,(part t xs off).run P w = .ok a w∧(Instr.checkKey em dd t a).run P w = .ok () w
theorem chk_plain {t:TypeId} {d:TypeDesc} (em:Bool) (n:Nat) (v:Value) (ht:P.underlying t = some d) (hd:(∃ q,d = .int q)∨d = .bool∨d = .string):(Instr.checkKey em (n + 1) t v).run P w = .ok () w:=by
  rcases hd with ⟨q,rfl⟩ | rfl | rfl <;> (simp only [Instr.checkKey,Sem.run_bind,run_underlying ht,Result.andThen_ok]; rfl)
mutual
theorem chk_all (em:Bool):∀ (d:Nat) (t:TypeId) (ks:List LK) (D:Nat),leaves P d t = some ks→ChkLeaf P w em (D + d) t ks.length
  | 0,t,ks,D,h=>by simp [leaves] at h
  | d + 1,t,ks,D,h=>by
    intro xs off hoff
    simp only [leaves,Option.bind_eq_some_iff,under] at h
    obtain ⟨td,htd,h⟩:=h
    have one:aggT td = false→ks.length = 1→((∃ q,td = .int q)∨td = .bool∨td = .string)→∃ a,(part t xs off).run P w = .ok a w∧(Instr.checkKey em (D + (d + 1)) t a).run P w = .ok () w:=fun h1 h2 h3 =>
      ⟨_,run_part_one (v:=xs[off]'(by omega)) htd h1 (by simp),chk_plain em (D + d) _ htd h3⟩
    cases td with
    | int k0 =>
      simp only at h
      split at h
      · cases h; exact one rfl rfl (.inl ⟨_,rfl⟩)
      · cases h
    | bool =>
      simp only at h
      split at h
      · cases h; exact one rfl rfl (.inr (.inl rfl))
      · cases h
    | string =>
      simp only at h
      split at h
      · cases h; exact one rfl rfl (.inr (.inr rfl))
      · cases h
    | struct fs =>
      simp only at h
      split at h
      · cases h
      · simp only [Option.bind_eq_some_iff] at h
        obtain ⟨l,hl,h⟩:=h
        split at h
        · rename_i hsz
          cases h
          refine ⟨_,run_part_agg htd rfl hsz,?_⟩
          rw [show D + (d + 1) = (D + d) + 1 from rfl,Instr.checkKey]
          simp only [Sem.run_bind,run_underlying htd,Result.andThen_ok]
          rw [← Array.forIn_toList]
          have hsz':0 + ks.length ≤ (xs.extract off (off + ks.length)).size:=by simp; omega
          revert hl hsz'
          generalize xs.extract off (off + ks.length) = ys
          generalize (0:Nat) = n
          generalize fs.toList = L
          clear hoff hsz one
          induction L generalizing n ks with
          | nil=>intro _ _; simp
          | cons f L ih =>
            intro hl hs
            simp only [leavesFs] at hl
            split at hl
            · cases hl
            · rename_i hc
              rw [not_or,Decidable.not_not] at hc
              obtain ⟨hn,ho⟩:=hc
              simp only [Option.bind_eq_some_iff,Option.map_eq_some_iff] at hl
              obtain ⟨l,hl,m,hm,rfl⟩:=hl
              simp only [List.length_append] at hs
              obtain ⟨a,p1,p2⟩:=chk_all em d f.type l D hl ys n (by omega)
              rw [← ho] at p1
              simp only [List.forIn_cons,Sem.run_bind,hn,ne_eq,not_false_eq_true,if_true,Result.andThen_ok,p1,p2,Sem.run_pure]
              exact ih m (n + l.length) hm (by omega)
        · cases h
    | array len e =>
      simp only [Option.bind_eq_some_iff] at h
      obtain ⟨l,hl,h⟩:=h
      split at h
      · rename_i hsz
        cases h
        obtain ⟨i,hi,hi2,hc⟩:=sizeT_cellsOf hsz.1
        refine ⟨_,run_part_agg htd rfl hsz.2,?_⟩
        have IH:=chk_all em d e l D hl
        rw [show D + (d + 1) = (D + d) + 1 from rfl,Instr.checkKey]
        simp only [Sem.run_bind,run_underlying htd,Result.andThen_ok]
        simp only [Std.Legacy.Range.forIn_eq_forIn_range',Std.Legacy.Range.size,Nat.sub_zero,Nat.add_one_sub_one,Nat.div_one]
        have hlen:(List.replicate len l).flatten.length = len * l.length:=by simp
        have hys:(xs.extract off (off + len * l.length)).size = len * l.length:=by
          rw [hlen] at hoff
          simp; omega
        have each:∀ j ∈ List.range' 0 len,j < len:=fun j hj=>by simp at hj; omega
        revert hys
        generalize xs.extract off (off + len * l.length) = ys
        intro hys
        generalize List.range' 0 len = is at each
        induction is with
        | nil=>simp
        | cons j is ih =>
          have hj:=each j (by simp)
          have hm:j * l.length + l.length ≤ len * l.length:=by
            have:=Nat.mul_le_mul_right l.length (show j + 1 ≤ len by omega); rw [Nat.add_mul,Nat.one_mul] at this; exact this
          obtain ⟨a,p1,p2⟩:=IH ys (j * l.length) (by omega)
          simp only [List.forIn_cons,Sem.run_bind,run_sizeOf w hi,Result.andThen_ok,hc,p1,p2,Sem.run_pure]
          exact ih (fun y hy=>each y (by simp [hy]))
      · cases h
    | _=>cases h
end
theorem chk_key {em:Bool} {t:TypeId} {d:TypeDesc} {ks:List LK} {k:Value} (h:leaves P 10 t = some ks) (ht:P.underlying t = some d) (hk:keyOk (aggT d) ks k = true):(Instr.checkKey em 10000 t k).run P w = .ok () w:=by
  simp only [keyOk,Bool.and_eq_true,beq_iff_eq] at hk
  cases hd:aggT d with
  | false =>
    refine chk_plain em 9999 _ ht ?_
    rw [show (10:Nat) = 9 + 1 from rfl,leaves,under,ht,Option.bind_some] at h
    cases d <;> first | (cases h; done) | (exact .inl ⟨_,rfl⟩) | (exact .inr (.inl rfl)) | (exact .inr (.inr rfl)) | (simp [aggT] at hd)
  | true =>
    rw [hd] at hk
    cases k <;> first | (simp [isAggV] at hk; done) | skip
    rename_i xs
    obtain ⟨a,p1,p2⟩:=chk_all (w:=w) em 10 t ks 9990 h xs 0 (by have h2:=hk.2; rw [show (keyCells (.agg xs)).length = xs.size from Array.length_toList] at h2; omega)
    have hs:sizeT P t = some ks.length:=by
      rw [show (10:Nat) = 9 + 1 from rfl,leaves,under,ht,Option.bind_some] at h
      cases d <;> first | (simp [aggT] at hd; done) | skip
      · simp only [Option.bind_eq_some_iff] at h
        obtain ⟨l,_,h⟩:=h
        split at h
        · rename_i hsz; cases h; simpa using hsz.2
        · cases h
      · simp only at h
        split at h
        · cases h
        · simp only [Option.bind_eq_some_iff] at h
          obtain ⟨l,_,h⟩:=h
          split at h
          · rename_i hsz; cases h; exact hsz
          · cases h
    rw [run_part_agg ht hd hs] at p1
    have e:xs.extract 0 (0 + ks.length) = xs:=by
      rw [Nat.zero_add,← hk.2]; simp [keyCells]
    rw [e] at p1
    cases p1
    exact p2
end
section
variable {P:Program} {w:World} {g:Gh} {H:List Obj}
variable {a:Act} {dst:Option Tmp} {ty:TypeId} {pos:String} {after:Array Edge} {gd:Option (Nat×Bool)}
structure KeyTy (P:Program) (t key el:TypeId) (q:Bool) (ks:List LK) (d:TypeDesc):Prop where
  map:P.underlying t = some (.map key el)
  und:P.underlying key = some d
  lv:leaves P 10 key = some ks
  agg:aggT d = q
theorem keyTy_some {t el:TypeId} {q:Bool×List LK} (h:keyT P t = some q) (he:elemT P t = some el):∃ key d,KeyTy P t key el q.1 q.2 d:=by
  unfold keyT under at h
  unfold elemT under at he
  split at h
  · rename_i k e hm
    rw [hm] at he
    simp only [Option.some.injEq] at he
    subst he
    simp only [Option.bind_eq_some_iff,Option.some.injEq] at h
    obtain ⟨d,hd,ks,hk,rfl⟩:=h
    exact ⟨k,d,hm,hd,hk,rfl⟩
  · cases h
theorem sameNow_of {key:TypeId} {ks:List LK} {d:TypeDesc} {k j:Value} {t:Bool} (hd:P.underlying key = some d) (hl:leaves P 10 key = some ks) (hg:aggT d = false) (hk:keyOk false ks k = true)
    (h:sameKey false ks (keyCells k) j = some t):Instr.sameNow d k j = some t:=by
  simp only [keyOk,Bool.and_eq_true,beq_iff_eq] at hk
  have hkc:keyCells k = [k]:=by cases k <;> first | rfl | (simp [isAggV] at hk)
  unfold sameKey at h
  split at h
  · rename_i hj
    have hjc:keyCells j = [j]:=by cases j <;> first | rfl | (simp [isAggV] at hj)
    rw [hkc,hjc] at h
    generalize hx:[k] = lx at h
    generalize hy:[j] = ly at h
    rw [show (10:Nat) = 9 + 1 from rfl,leaves,under,hd,Option.bind_some] at hl
    cases d with
    | int q =>
      simp only at hl
      split at hl
      · cases hl
        unfold sameCells at h
        split at h
        · rename_i h0; cases h0
        · rename_i h0; cases h0
          cases hx; cases hy
          split at h
          · rename_i hq
            rw [sameCells_one] at h
            simp only [Instr.sameNow,if_pos hq,h]
          · cases h
        · rename_i h0; cases h0
        · rename_i h0; cases h0
        · cases h
      · cases hl
    | bool =>
      simp only at hl
      split at hl
      · cases hl
        unfold sameCells at h
        split at h
        · rename_i h0; cases h0
        · rename_i h0; cases h0
        · rename_i h0; cases h0
          cases hx; cases hy
          rw [sameCells_one] at h
          simp only [Instr.sameNow,h]
        · rename_i h0; cases h0
        · cases h
      · cases hl
    | string =>
      simp only at hl
      split at hl
      · cases hl
        unfold sameCells at h
        split at h
        · rename_i h0; cases h0
        · rename_i h0; cases h0
        · rename_i h0; cases h0
        · rename_i h0; cases h0
          cases hx; cases hy
          rw [sameCells_one] at h
          simp only [Instr.sameNow,beq_toListBytes,h]
        · cases h
      · cases hl
    | struct fs=>simp [aggT] at hg
    | array n e=>simp [aggT] at hg
    | _=>cases hl
  · cases h
theorem equal_of {key:TypeId} {ks:List LK} {d:TypeDesc} {k j:Value} {t:Bool} (hd:P.underlying key = some d) (hl:leaves P 10 key = some ks) (hg:aggT d = true) (hk:keyOk true ks k = true)
    (h:sameKey true ks (keyCells k) j = some t):(Op.equal key k j).run P w = .ok t w:=by
  simp only [keyOk,Bool.and_eq_true,beq_iff_eq] at hk
  unfold sameKey at h
  split at h
  · rename_i hja
    cases k <;> first | (simp [isAggV] at hk; done) | skip
    cases j <;> first | (simp [isAggV] at hja; done) | skip
    rename_i xs ys
    simp only [keyCells] at h hk
    rw [show (10:Nat) = 9 + 1 from rfl,leaves,under,hd,Option.bind_some] at hl
    cases d with
    | struct fs =>
      simp only at hl
      split at hl
      · cases hl
      · rename_i hst
        simp only [Option.bind_eq_some_iff] at hl
        obtain ⟨l,hl,h'⟩:=hl
        split at h'
        · rename_i hsz
          cases h'
          have hfs:P.fieldsOf key = fs:=by simp [Program.fieldsOf,hd]
          rw [show Op.equal key (.agg xs) (.agg ys) = Op.equalIn ((9990 + 9) + 1) key (.agg xs) (.agg ys) from rfl]
          rw [run_equalIn_struct w _ key _ _ (by rw [hfs]; exact hd) (by simpa using hst),hfs]
          exact eqLeaf_fields (lv:=leaves P 9) (fun t ks h=>eqLeaf_all 9 t ks _ h) _ _ fs.toList 0 ks t hl (by simpa using h)
        · cases h'
    | array len e =>
      simp only [Option.bind_eq_some_iff] at hl
      obtain ⟨l,hl,h'⟩:=hl
      split at h'
      · rename_i hsz
        cases h'
        obtain ⟨i,hi,_,hc⟩:=sizeT_cellsOf hsz.1
        rw [show Op.equal key (.agg xs) (.agg ys) = Op.equalIn ((9990 + 9) + 1) key (.agg xs) (.agg ys) from rfl]
        rw [run_equalIn_array w _ _ _ hd hi,List.range_eq_range',hc]
        exact eqLeaf_items (eqLeaf_all 9 e l _ hl) rfl _ _ len 0 t (by simpa using h)
      · cases h'
    | _=>simp [aggT] at hg
  · cases h
def keysEq (ents:List MapEntry) (es:List (Value×AV)):Prop:=ents.map (·.key) = es.map (·.1)
def NoneAt (q:Bool) (ks:List LK) (kc:List Value) (es:List (Value×AV)):Prop:=∀ p ∈ es,sameKey q ks kc p.1 = some false
def FirstAt (q:Bool) (ks:List LK) (kc:List Value) (es:List (Value×AV)) (j:Nat) (p:Value×AV):Prop :=
  es[j]? = some p∧sameKey q ks kc p.1 = some true∧∀ (i:Nat) (p':Value×AV),i < j→es[i]? = some p'→sameKey q ks kc p'.1 = some false
theorem mapFind_at {q:Bool} {ks:List LK} {kc:List Value}:∀ {es:List (Value×AV)} {r:Option AV},mapFind q ks kc es = some r→(r = none∧NoneAt q ks kc es)∨∃ j p,FirstAt q ks kc es j p∧r = some p.2
  | [],r,h=>by cases h; exact .inl ⟨rfl,fun p hp=>by cases hp⟩
  | (j,u)::es,r,h=>by
    simp only [mapFind,Option.bind_eq_some_iff] at h
    obtain ⟨t,ht,h⟩:=h
    cases t with
    | true =>
      simp only [if_true,Option.some.injEq] at h
      exact .inr ⟨0,(j,u),⟨rfl,ht,fun i p' hi=>by omega⟩,h.symm⟩
    | false =>
      simp only [Bool.false_eq_true,if_false] at h
      rcases mapFind_at h with ⟨h1,h2⟩ | ⟨j',p,⟨h1,h2,h3⟩,h4⟩
      · refine .inl ⟨h1,fun p hp=>?_⟩
        rcases List.mem_cons.1 hp with rfl | hp
        · exact ht
        · exact h2 p hp
      · refine .inr ⟨j' + 1,p,⟨by simpa using h1,h2,fun i p' hi hp=>?_⟩,h4⟩
        cases i with
        | zero=>simp at hp; subst hp; exact ht
        | succ i=>exact h3 i p' (by omega) (by simpa using hp)
theorem mapSet_at {q:Bool} {ks:List LK} {k:Value} {v:AV}:∀ {es es':List (Value×AV)},mapSet q ks k v es = some es'→(NoneAt q ks (keyCells k) es∧es' = es++[(k,v)]) ∨
    ∃ j p,FirstAt q ks (keyCells k) es j p∧(keyCells p.1).length = ks.length∧es' = es.set j (k,v)
  | [],es',h=>by cases h; exact .inl ⟨fun p hp=>(by cases hp),rfl⟩
  | (j,u)::es,es',h=>by
    simp only [mapSet,Option.bind_eq_some_iff] at h
    obtain ⟨t,ht,h⟩:=h
    cases t with
    | true =>
      simp only [if_true] at h
      split at h
      · rename_i hl
        cases h
        exact .inr ⟨0,(j,u),⟨rfl,ht,fun i p' hi=>by omega⟩,hl,rfl⟩
      · cases h
    | false =>
      simp only [Bool.false_eq_true,if_false,Option.map_eq_some_iff] at h
      obtain ⟨es1,h,rfl⟩:=h
      rcases mapSet_at h with ⟨h1,rfl⟩ | ⟨j',p,⟨h1,h2,h3⟩,h4,rfl⟩
      · refine .inl ⟨fun p hp=>?_,rfl⟩
        rcases List.mem_cons.1 hp with rfl | hp
        · exact ht
        · exact h1 p hp
      · refine .inr ⟨j' + 1,p,⟨by simpa using h1,h2,fun i p' hi hp=>?_⟩,h4,rfl⟩
        cases i with
        | zero=>simp at hp; subst hp; exact ht
        | succ i=>exact h3 i p' (by omega) (by simpa using hp)
theorem search_none {q:Bool} {ks:List LK} {kc:List Value} {α:Type} (F:List MapEntry→Nat→α) (z:α) (hz:∀ i,F [] i = z) (hF:∀ e es i,sameKey q ks kc e.key = some false→F (e::es) i = F es (i + 1)) :
    ∀ {ents:List MapEntry} {es:List (Value×AV)} (i:Nat),keysEq ents es→NoneAt q ks kc es→F ents i = z
  | [],_,i,_,_=>hz i
  | e::ents,[],i,he,_=>by simp [keysEq] at he
  | e::ents,p::es,i,he,h=>by
    simp only [keysEq,List.map_cons,List.cons.injEq] at he
    rw [hF e ents i (by rw [he.1]; exact h p (by simp))]
    exact search_none F z hz hF (i + 1) he.2 (fun p' hp=>h p' (by simp [hp]))
theorem search_first {q:Bool} {ks:List LK} {kc:List Value} {α:Type} (F:List MapEntry→Nat→α) (z:Nat→Value→α) (hF:∀ e es i,sameKey q ks kc e.key = some false→F (e::es) i = F es (i + 1))
    (hT:∀ e es i,sameKey q ks kc e.key = some true→F (e::es) i = z i e.val) :
    ∀ {ents:List MapEntry} {es:List (Value×AV)} (i:Nat) {j:Nat} {p:Value×AV},keysEq ents es→FirstAt q ks kc es j p→∃ e,ents[j]? = some e∧F ents i = z (i + j) e.val
  | [],[],i,j,p,_,h=>by simp [FirstAt] at h
  | [],p::es,i,j,_,he,_=>by simp [keysEq] at he
  | e::ents,[],i,j,p,he,_=>by simp [keysEq] at he
  | e::ents,p0::es,i,j,p,he,⟨h1,h2,h3⟩=>by
    simp only [keysEq,List.map_cons,List.cons.injEq] at he
    cases j with
    | zero =>
      simp at h1
      subst h1
      exact ⟨e,rfl,hT e ents i (by rw [he.1]; exact h2)⟩
    | succ j =>
      obtain ⟨e',k1,k2⟩:=search_first F z hF hT (i + 1) (j:=j) (p:=p) he.2 ⟨by simpa using h1,h2,fun i' p' hi hp=>h3 (i' + 1) p' (by omega) (by simpa using hp)⟩
      refine ⟨e',by simpa using k1,?_⟩
      rw [hF e ents i (by rw [he.1]; exact h3 0 p0 (by omega) rfl),k2]
      congr 1
      omega
theorem now_parts {d:TypeDesc} {k:Value} (hg:aggT d = true) (e:MapEntry) (ents:List MapEntry) (i:Nat):Instr.findNow d k (e::ents) i = none:=by
  have:Instr.sameNow d k e.key = none:=by
    cases d <;> first | rfl | (simp [aggT] at hg)
  simp [Instr.findNow,this]
section
variable {key:TypeId} {q:Bool} {ks:List LK} {d:TypeDesc} {k:Value} (hd:P.underlying key = some d) (hl:leaves P 10 key = some ks) (hg:aggT d = q) (hk:keyOk q ks k = true) {ents:List MapEntry} {es:List (Value×AV)} (he:keysEq ents es)
include hd hl hg hk he
theorem run_find_none (h:NoneAt q ks (keyCells k) es):(Instr.findKey key k ents).run P w = .ok none w:=by
  cases q with
  | false =>
    have:=search_none (fun l i=>Instr.findNow d k l i) (some none) (fun i=>rfl) (fun e es i hs=>by simp [Instr.findNow,sameNow_of hd hl hg hk hs]) 0 he h
    simp [Instr.findKey,run_underlying hd,this]
  | true =>
    have:=search_none (fun l i=>(Instr.findAsking key k l i).run P w) (.ok none w) (fun i=>rfl) (fun e es i hs=>by simp [Instr.findAsking,equal_of hd hl hg hk hs]) 0 he h
    cases ents with
    | nil=>simp [Instr.findKey,run_underlying hd,Instr.findNow]
    | cons e ents=>simp [Instr.findKey,run_underlying hd,now_parts hg,this]
theorem run_find_first {j:Nat} {p:Value×AV} (h:FirstAt q ks (keyCells k) es j p):∃ e,ents[j]? = some e∧(Instr.findKey key k ents).run P w = .ok (some (j,e.val)) w:=by
  cases q with
  | false =>
    obtain ⟨e,h1,h2⟩:=search_first (fun l i=>Instr.findNow d k l i) (fun j v=>some (some (j,v))) (fun e es i hs=>by simp [Instr.findNow,sameNow_of hd hl hg hk hs]) (fun e es i hs=>by simp [Instr.findNow,sameNow_of hd hl hg hk hs]) 0 he h
    exact ⟨e,h1,by simp only [Nat.zero_add] at h2; simp [Instr.findKey,run_underlying hd,h2]⟩
  | true =>
    obtain ⟨e,h1,h2⟩:=search_first (fun l i=>(Instr.findAsking key k l i).run P w) (fun j v=>.ok (some (j,v)) w) (fun e es i hs=>by simp [Instr.findAsking,equal_of hd hl hg hk hs]) (fun e es i hs=>by simp [Instr.findAsking,equal_of hd hl hg hk hs]) 0 he h
    simp only [Nat.zero_add] at h2
    cases ents with
    | nil=>simp at h1
    | cons e0 ents=>exact ⟨e,h1,by simp [Instr.findKey,run_underlying hd,now_parts hg,h2]⟩
end
theorem map_rep' {c:Value} {r:Option Nat} {es:List (Value×AV)} {u:AV} (hs:StRel w g H) (h:Rep w g H c u) (hu:asMap u = some r) (hm:mapAt H r = some es) :
    (r = none∧c = .map none∧es = [])∨∃ l,r = some l∧c = .map (some (g.blk l))∧H[l]? = some (.map es)∧∃ ents ck,(w.heap[g.blk l]? = some (.map ents ck)∧BornOk ents ck)∧ents.size = es.length ∧
      (∀ (i:Nat) (e:MapEntry) (p:Value×AV),ents[i]? = some e→es[i]? = some p→e.key = p.1∧Rep w g H e.val p.2)∧keysEq ents.toList es:=by
  cases h with
  | @map l es' h =>
    simp only [asMap,Option.some.injEq] at hu
    subst hu
    simp only [mapAt,h,Option.some.injEq] at hm
    subst hm
    obtain ⟨ents,ck,h1,h2,h3⟩:=hs.objs _ _ h
    refine .inr ⟨l,rfl,rfl,h,ents,ck,h1,h2,h3,?_⟩
    apply List.ext_getElem?
    intro i
    rw [List.getElem?_map,List.getElem?_map,Array.getElem?_toList]
    by_cases hi:i < es'.length
    · have hi':i < ents.size:=by omega
      have:=(h3 i ents[i] es'[i] (by simp [hi']) (by simp [hi])).1
      simp [hi,hi',this]
    · rw [Array.getElem?_eq_none (by omega),List.getElem?_eq_none (by omega)]
      rfl
  | p h =>
    cases h with
    | v hv =>
      simp only [asMap] at hu
      split at hu
      · rename_i h0; cases h0
      · rename_i h0
        cases h0
        cases hu
        simp only [mapAt,Option.some.injEq] at hm
        exact .inl ⟨rfl,rfl,hm.symm⟩
      · cases hu
    | _=>cases hu
  | _=>cases hu
theorem zeroE_rep {kn:TypeId→Bool} {el:TypeId} {z:AV} (h:zeroE P kn el = some z):∃ c,(zeroValue el).run P w = .ok c w∧Rep w g H c z:=by
  unfold zeroE at h
  simp only [Option.bind_eq_some_iff] at h
  obtain ⟨c,⟨i,hi,hz⟩,h⟩:=h
  refine ⟨c,by simp [zeroValue,run_typeInfo w hi,hz],?_⟩
  split at h
  · rename_i cs
    simp only [Option.map_eq_some_iff] at h
    obtain ⟨zs,hm,rfl⟩:=h
    obtain ⟨h1,h2⟩:=mapM_some hm
    exact .agg (by simpa using h1) (fun i c hc=>by
      have hi:i < cs.size:=(Array.getElem?_eq_some_iff.1 hc).1
      exact cvt_one (h2 i c (zs[i]'(by simp at h1; omega)) (by simpa using hc) (by simp))) (fun i c x hc hx=>cvt_rep (h2 i c x (by simpa using hc) hx))
  · exact cvt_rep h
theorem run_mapget {t key el:TypeId} {q ok:Bool} {ks:List LK} {d:TypeDesc} {x y:Operand} {u:AV} {r:Option Nat} {k:Value} {uk z:AV} {es:List (Value×AV)} {o:Option AV} (hs:StRel w g H) (hT:KeyTy P t key el q ks d)
    (hz:∃ c,(zeroValue el).run P w = .ok c w∧Rep w g H c z)
    (hx:Rep w g H (a.eval x) u) (hu:asMap u = some r) (hy:a.eval y = k) (hm:mapAt H r = some es) (hk:keyOk q ks k = true) (hf:mapFind q ks (keyCells k) es = some o) :
    RunV P a w g H ⟨dst,.lookup t x y ok,ty,pos,after,gd⟩ (if ok then .tup [o.getD z,.p (.v (.bool o.isSome))] else o.getD z):=by
  obtain ⟨zc,hz1,hz2⟩:=hz
  have fin:∀ {c:Value} {v:AV} {b:Bool},Rep w g H c v→(Instr.lookup t (a.eval x) (a.eval y) ok).run P w = .ok (if ok then .tuple #[c,.bool b] else c) w →
      RunV P a w g H ⟨dst,.lookup t x y ok,ty,pos,after,gd⟩ (if ok then .tup [v,.p (.v (.bool b))] else v):=fun {c v b} hr hrun=>by
    refine ⟨if ok then .tuple #[c,.bool b] else c,by simp [execOp,hrun],?_⟩
    cases ok with
    | false=>exact hr
    | true =>
      refine .tup rfl (fun i c' x' hc hx'=>?_)
      match i with
      | 0=>simp at hc hx'; subst hc; subst hx'; exact hr
      | 1=>simp at hc hx'; subst hc; subst hx'; exact .p (.v rfl)
      | i + 2=>simp at hc
  have hck:∀ em,(Instr.checkKey em 10000 key k).run P w = .ok () w:=fun em=>chk_key hT.lv hT.und (by rw [hT.agg]; exact hk)
  rcases map_rep' hs hx hu hm with ⟨rfl,hc,rfl⟩ | ⟨l,rfl,hc,_,ents,ck,⟨hh,hbo⟩,hsz,hrep,hke⟩
  · cases hf
    refine fin hz2 ?_
    have h2:=run_find_none (w:=w) (ents:=[]) (es:=[]) hT.und hT.lv hT.agg hk rfl (fun p hp=>by cases hp)
    simp [Instr.lookup,run_underlying hT.map,hc,hy,hck,h2,hz1]
  · have hgo:(getObj (g.blk l)).run P w = .ok (.map ents ck) w:=by simp [getObj,Sem.run,hh]
    rcases mapFind_at hf with ⟨rfl,hn⟩ | ⟨j,p,hfa,rfl⟩
    · refine fin hz2 ?_
      have h2:=run_find_none (w:=w) hT.und hT.lv hT.agg hk hke hn
      simp [Instr.lookup,run_underlying hT.map,hc,hy,hgo,hck,h2,hz1]
    · obtain ⟨e,h1,h4⟩:=run_find_first (w:=w) hT.und hT.lv hT.agg hk hke hfa
      refine fin (hrep j e p (by simpa using h1) hfa.1).2 ?_
      simp [Instr.lookup,run_underlying hT.map,hc,hy,hgo,hck,h4]
theorem sameBits_of:∀ {ks:List LK} {xs ys:List Value} (n:Nat),sameCells ks xs ys = some true→xs.length = ks.length→ys.length = ks.length→(ys.zip xs).all (fun p=>Instr.sameBits (n + 1) p.1 p.2) = true
  | [],xs,ys,n,_,h1,h2=>by
    cases xs <;> cases ys <;> simp_all
  | l::ks,xs,ys,n,h,h1,h2=>by
    unfold sameCells at h
    split at h
    · rename_i h0; cases h0
    · rename_i h0; cases h0
      split at h
      · rename_i hk
        split at h
        · rename_i hab
          simp only [List.length_cons,Nat.add_right_cancel_iff] at h1 h2
          have:=sameBits_of n h h1 h2
          simp only [beq_iff_eq] at hab
          simp [Instr.sameBits,hk,hab]
          simpa using this
        · cases h
      · cases h
    · rename_i h0; cases h0
      split at h
      · rename_i hab
        simp only [List.length_cons,Nat.add_right_cancel_iff] at h1 h2
        have:=sameBits_of n h h1 h2
        simp only [beq_iff_eq] at hab
        simp [Instr.sameBits,hab]
        simpa using this
      · cases h
    · rename_i h0; cases h0
      split at h
      · rename_i hab
        simp only [List.length_cons,Nat.add_right_cancel_iff] at h1 h2
        have:=sameBits_of n h h1 h2
        rw [← beq_toListBytes] at hab
        have hab:=byteArray_beq hab
        subst hab
        simp [Instr.sameBits,byteArray_beq_self]
        simpa using this
      · cases h
    · cases h
theorem sameBits_key {q:Bool} {ks:List LK} {k j:Value} (hk:keyOk q ks k = true) (h:sameKey q ks (keyCells k) j = some true) (hj:(keyCells j).length = ks.length):Instr.sameBits 10000 j k = true:=by
  simp only [keyOk,Bool.and_eq_true,beq_iff_eq] at hk
  unfold sameKey at h
  split at h
  · rename_i hja
    have hc9:=sameBits_of 9999 h hk.2 hj
    have hc:=sameBits_of 9998 h hk.2 hj
    cases k with
    | agg xs =>
      have hq:true = q:=hk.1
      subst hq
      cases j <;> first | (simp [isAggV] at hja; done) | skip
      rename_i ys
      simp only [keyCells] at hc hk hj
      have:ys.size == xs.size:=by simp at hk hj ⊢; omega
      simp only [Instr.sameBits,this,Bool.true_and]
      exact hc
    | _ =>
      have hq:false = q:=hk.1
      subst hq
      cases j <;> first | (simp [isAggV] at hja; done) | skip
      all_goals
        simp only [keyCells,List.zip_cons_cons,List.zip_nil_right,List.all_cons,List.all_nil,Bool.and_true] at hc9
        exact hc9
  · cases h
theorem sim_mapset {t key el:TypeId} {q:Bool} {ks:List LK} {d:TypeDesc} {x y z:Operand} {u:AV} {l:Nat} {k:Value} {v:AV} {es es':List (Value×AV)} (hs:StRel w g H) (hT:KeyTy P t key el q ks d)
    (hx:Rep w g H (a.eval x) u) (hu:asMap u = some (some l)) (hy:a.eval y = k) (hz:Rep w g H (a.eval z) v) (hm:mapAt H (some l) = some es) (hk:keyOk q ks k = true) (hf:mapSet q ks k v es = some es') :
    OpSim P a w g H ⟨none,.mapUpdate t x y z,ty,pos,after,gd⟩ (.p .nsl) (H.set l (.map es')):=by
  rcases map_rep' hs hx hu hm with ⟨h0,_⟩ | ⟨l',h0,hc,hH,ents,ck,⟨hh,hbo⟩,hsz,hrep,hke⟩
  · cases h0
  · cases h0
    have hck:∀ em,(Instr.checkKey em 10000 key k).run P w = .ok () w:=fun em=>chk_key hT.lv hT.und (by rw [hT.agg]; exact hk)
    have hgo:(getObj (g.blk l)).run P w = .ok (.map ents ck) w:=by simp [getObj,Sem.run,hh]
    have hso:∀ o,(setObj (g.blk l) o).run P w = .ok () { w with heap:=w.heap.setIfInBounds (g.blk l) o }:=fun o=>by simp [setObj,Sem.run,hh]
    have hlt:g.blk l < w.heap.size:=(Array.getElem?_eq_some_iff.1 hh).1
    have hll:l < H.length:=(List.getElem?_eq_some_iff.1 hH).1
    have key:∃ ents' ck',(execOp a.eval ⟨none,.mapUpdate t x y z,ty,pos,after,gd⟩).run P w = .ok .skip { w with heap:=w.heap.setIfInBounds (g.blk l) (.map ents' ck') }∧(BornOk ents' ck'∧ents'.size = es'.length) ∧
        ∀ (i:Nat) (e:MapEntry) (p:Value×AV),ents'[i]? = some e→es'[i]? = some p→(e.key = p.1∧((∃ e0,ents[i]? = some e0∧es[i]? = some p∧e = e0)∨(e.val = a.eval z∧p.2 = v))):=by
      rcases mapSet_at hf with ⟨hn,rfl⟩ | ⟨j,p,hfa,hl,rfl⟩
      · have h2:=run_find_none (w:=w) hT.und hT.lv hT.agg hk hke hn
        refine ⟨ents.push { key:=k,val:=a.eval z,born:=ck },ck + 1,?_,⟨⟨?_,?_⟩,by simp [hsz]⟩,fun i e p h1 h2=>?_⟩
        · simp [execOp,hc,hy,Instr.mapUpdate,run_underlying hT.map,hgo,hck,h2,hso]
        · rw [Array.toList_push,List.pairwise_append]
          exact ⟨hbo.1,List.pairwise_singleton _ _,fun e he e' he'=>by simp at he'; rw [he']; exact hbo.2 e he⟩
        · intro e he
          rw [Array.toList_push,List.mem_append] at he
          rcases he with he | he
          · exact Nat.lt_succ_of_lt (hbo.2 e he)
          · simp at he; rw [he]; exact Nat.lt_succ_self _
        · by_cases hi:i < ents.size
          · rw [Array.getElem?_push_lt hi] at h1
            rw [List.getElem?_append_left (by omega)] at h2
            have h1':ents[i]? = some e:=by rw [← h1]; simp [hi]
            exact ⟨(hrep i e p h1' h2).1,.inl ⟨e,h1',h2,rfl⟩⟩
          · have hi':i = ents.size:=by
              have:=(Array.getElem?_eq_some_iff.1 h1).1; simp at this; omega
            subst hi'
            simp at h1
            rw [hsz] at h2
            simp at h2
            subst h1; subst h2
            exact ⟨rfl,.inr ⟨rfl,rfl⟩⟩
      · obtain ⟨e,h1,h4⟩:=run_find_first (w:=w) hT.und hT.lv hT.agg hk hke hfa
        have h1':ents[j]? = some e:=by simpa using h1
        have hjl:j < es.length:=(List.getElem?_eq_some_iff.1 hfa.1).1
        have hbits:Instr.sameBits 10000 e.key k = true:=by rw [(hrep j e p h1' hfa.1).1]; exact sameBits_key hk hfa.2.1 hl
        have hmb:(ents.modify j fun e=>{ e with key:=k,val:=a.eval z }).toList.map (·.born) = ents.toList.map (·.born):=by
          apply List.ext_getElem?
          intro i
          rw [List.getElem?_map,List.getElem?_map,Array.getElem?_toList,Array.getElem?_toList,Array.getElem?_modify]
          by_cases hij:j = i
          · subst hij; simp [h1']
          · simp [hij]
        refine ⟨ents.modify j fun e=>{ e with key:=k,val:=a.eval z },ck,?_,⟨⟨?_,?_⟩,by simp [hsz]⟩,fun i e' p' h2 h3=>?_⟩
        · simp [execOp,hc,hy,Instr.mapUpdate,run_underlying hT.map,hgo,hck,h4,hso,h1',Instr.keyThatStays,hbits]
        · have:=(List.pairwise_map (f:=fun e:MapEntry=>e.born) (R:=(· < ·))).2 hbo.1
          rw [← hmb] at this
          exact List.pairwise_map.1 this
        · intro e' he'
          have:=List.mem_map_of_mem (f:=fun e:MapEntry=>e.born) he'
          rw [hmb,List.mem_map] at this
          obtain ⟨e2,he2,hb2⟩:=this
          rw [← hb2]
          exact hbo.2 e2 he2
        · rw [Array.getElem?_modify] at h2
          rw [List.getElem?_set] at h3
          by_cases hij:j = i
          · subst hij
            simp [h1'] at h2
            simp [hjl] at h3
            subst h2; subst h3
            exact ⟨rfl,.inr ⟨rfl,rfl⟩⟩
          · simp only [hij,if_false] at h2 h3
            exact ⟨(hrep i e' p' h2 h3).1,.inl ⟨e',h2,h3,rfl⟩⟩
    obtain ⟨ents',ck',hrun,⟨hbo',hsz'⟩,hrep'⟩:=key
    have hnoD:∀ i,¬ g.D (g.blk l) i:=hs.stand l _ hH
    obtain ⟨e1,e2⟩:=evo_obj (w':={ w with heap:=w.heap.setIfInBounds (g.blk l) (.map ents' ck') }) (g':=g) (o':=.map es') (Q:=fun _=>False) hs hH rfl rfl rfl (fun b i=>by simp)
      ⟨fun b hb=>by simp [Array.getElem?_setIfInBounds,Ne.symm hb],by simp,rfl,rfl,⟨rfl,Nat.le_refl _⟩,fun vs e f h=>(by rw [hh] at h; cases h),fun _=>hnoD⟩
      (.map hH (List.getElem?_set_self hll) rfl)
      (fun hr=>⟨ents',ck',⟨by simp [Array.getElem?_setIfInBounds,hlt],hbo'⟩,hsz',fun i e p h1 h2=>by
        obtain ⟨k1,k2⟩:=hrep' i e p h1 h2
        refine ⟨k1,?_⟩
        rcases k2 with ⟨e0,q1,q2,rfl⟩ | ⟨q1,q2⟩
        · exact hr _ _ (hrep i e p q1 q2).2
        · rw [q1,q2]; exact hr _ _ hz⟩) hnoD
    exact ⟨undef,_,g,.inr ⟨hrun,rfl⟩,e1,e2,.inl rfl⟩
theorem run_lenM {c:Call} {x:Operand} {t key el:TypeId} {u:AV} {r:Option Nat} {es:List (Value×AV)} (hs:StRel w g H) (hc:c.callee = .builtin .len) (ha:c.args.toList = [x]) (ht:c.argTypes[0]? = some t) (hu:P.underlying t = some (.map key el))
    (hx:Rep w g H (a.eval x) u) (hr:asMap u = some r) (hm:mapAt H r = some es):RunV P a w g H ⟨dst,.call c,ty,pos,after,gd⟩ (.p (.v (.int .i64 (es.length:Int)))):=by
  have ha':c.args = #[x]:=by rw [← Array.toList_inj]; exact ha
  refine ⟨.int .i64 (es.length:Int),?_,.p (.v rfl)⟩
  rcases map_rep' hs hx hr hm with ⟨rfl,hcx,rfl⟩ | ⟨l,rfl,hcx,_,ents,ck,⟨hh,_⟩,hsz,_⟩
  · simp [execOp,resolve,hc,ha',Go.invoke,Go.builtin,Builtin.len_,ht,run_underlying hu,hcx,goInt]
  · have hgo:(getObj (g.blk l)).run P w = .ok (.map ents ck) w:=by simp [getObj,Sem.run,hh]
    simp [execOp,resolve,hc,ha',Go.invoke,Go.builtin,Builtin.len_,ht,run_underlying hu,hcx,hgo,hsz,goInt]
end
end Go.Proofs.YtepbfecmageleaaGreatDoor
