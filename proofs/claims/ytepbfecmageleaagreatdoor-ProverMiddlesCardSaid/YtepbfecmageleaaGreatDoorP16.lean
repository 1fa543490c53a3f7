/- Part of the proof of Rows.ProverMiddlesCardSaid: EvD2, EvD3, EvD4, EvD5, EvF, EvF2, EvF3, EvD6. -/
import Derived.Test.YtepbfecmageleaaGreatDoorP04
import Derived.Test.YtepbfecmageleaaGreatDoorP12
set_option linter.all false
namespace Go.Proofs.YtepbfecmageleaaGreatDoor
open Go
variable [Sub]
def dval (v:Option AV):AV:=v.getD (.tup [])
def envs:Fr→List DO→List (Fr×Option AV)→Nat→Fr
  | e,_,_,0=>e
  | e,d::ds,(_,v)::rs,i + 1=>envs (dstPut d.o.dst e (dval v)) ds rs i
  | e,_,_,_ + 1=>e
def cnt:List DO→Nat→Nat
  | _,0=>0
  | [],_ + 1=>0
  | d::ds,i + 1=>(if d.k.seq then 1 else 0) + cnt ds i
def OpM (P:Program) (kn:TypeId→Bool) (d:DO) (e:Fr) (H:List Obj) (v:Option AV) (next:Option (List Obj)):Prop :=
  match v with
  | none=>d.k.seq = true→next = some H
  | some x=>match d.k with
    | .write=>∃ H',next = some H'∧OneM P kn d.o.op e H (x,H')
    | .lone=>noRefs e d.o.op = true∧OneM P kn d.o.op e [] (x,[])
    | .fresh=>∃ H',next = some H'∧evOp e H d.o.op = some (x,H')
    | _=>∃ H',evOp e H d.o.op = some (x,H')
structure RecOk (P:Program) (kn:TypeId→Bool) (ds:List DO) (e0:Fr) (H0:List Obj) (r:Tr):Prop where
  len:r.recs.length = ds.length
  fin:r.s.env = (envs e0 ds r.recs ds.length).env
  last:(r.stores++[r.s.H])[cnt ds ds.length]? = some r.s.H
  zero:(r.stores++[r.s.H])[0]? = some H0
  at_:∀ i d,ds[i]? = some d→∃ v Hi,r.recs[i]? = some (envs e0 ds r.recs i,v)∧wanted d.o (envs e0 ds r.recs i) = some v.isSome∧(r.stores++[r.s.H])[cnt ds i]? = some Hi ∧
    OpM P kn d (envs e0 ds r.recs i) Hi v (r.stores++[r.s.H])[cnt ds i + 1]?
theorem recOk_cons_same {P:Program} {kn:TypeId→Bool} {d:DO} {ds:List DO} {e:Fr} {H:List Obj} {v:Option AV} {r:Tr} (hk:d.k.seq = false) (h:RecOk P kn ds (dstPut d.o.dst e (dval v)) H r)
    (hw:wanted d.o e = some v.isSome) (h0:∀ next,OpM P kn d e H v next):RecOk P kn (d::ds) e H ⟨(e,v)::r.recs,r.stores,r.s⟩:=by
  have hc:∀ i,cnt (d::ds) (i + 1) = cnt ds i:=fun i=>by simp [cnt,hk]
  refine ⟨by simp [h.len],?_,?_,h.zero,fun i d' hi=>?_⟩
  · simp only [List.length_cons,envs]; exact h.fin
  · simp only [List.length_cons,hc]; exact h.last
  · cases i with
    | zero =>
      simp only [List.getElem?_cons_zero,Option.some.injEq] at hi
      subst hi
      exact ⟨v,H,rfl,hw,h.zero,h0 _⟩
    | succ i =>
      simp only [List.getElem?_cons_succ] at hi
      obtain ⟨v',Hi,h1,h2,h3,h4⟩:=h.at_ i d' hi
      exact ⟨v',Hi,by simpa [envs] using h1,by simpa [envs] using h2,by rw [hc]; exact h3,by rw [hc]; simpa [envs] using h4⟩
theorem recOk_cons_write {P:Program} {kn:TypeId→Bool} {d:DO} {ds:List DO} {e:Fr} {H H':List Obj} {v:Option AV} {r:Tr} (hk:d.k.seq = true) (h:RecOk P kn ds (dstPut d.o.dst e (dval v)) H' r)
    (hw:wanted d.o e = some v.isSome) (h0:OpM P kn d e H v (some H')):RecOk P kn (d::ds) e H ⟨(e,v)::r.recs,H::r.stores,r.s⟩:=by
  have hc:∀ i,cnt (d::ds) (i + 1) = cnt ds i + 1:=fun i=>by simp [cnt,hk,Nat.add_comm]
  refine ⟨by simp [h.len],?_,?_,rfl,fun i d' hi=>?_⟩
  · simp only [List.length_cons,envs]; exact h.fin
  · simp only [List.length_cons,hc,List.cons_append,List.getElem?_cons_succ]; exact h.last
  · cases i with
    | zero =>
      simp only [List.getElem?_cons_zero,Option.some.injEq] at hi
      subst hi
      refine ⟨v,H,rfl,hw,rfl,?_⟩
      have:cnt (d::ds) 0 = 0:=by simp [cnt]
      rw [this]
      simp only [List.cons_append,Nat.zero_add,List.getElem?_cons_succ,h.zero]
      exact h0
    | succ i =>
      simp only [List.getElem?_cons_succ] at hi
      obtain ⟨v',Hi,h1,h2,h3,h4⟩:=h.at_ i d' hi
      exact ⟨v',Hi,by simpa [envs] using h1,by simpa [envs] using h2,by rw [hc]; simpa using h3,by rw [hc]; simpa [envs] using h4⟩
theorem trM_rec {P:Program} {kn:TypeId→Bool} {ds:List DO} {e:Fr} {H:List Obj} {r:Tr} (h:TrM P kn ds e H r):RecOk P kn ds e H r:=by
  induction h with
  | nil=>exact ⟨rfl,rfl,rfl,rfl,fun i d h=>by simp at h⟩
  | @skip o os e H r hw _ ih =>
    by_cases hk:o.k.seq = true
    · rw [if_pos hk]
      exact recOk_cons_write (v:=none) hk ih (by simpa using hw) (fun _=>rfl)
    · rw [if_neg hk]
      exact recOk_cons_same (v:=none) (by simpa using hk) ih (by simpa using hw) (fun _ h=>absurd h hk)
  | @write o os e H v r hw hk h1 _ ih=>exact recOk_cons_write (v:=some v.1) (by rw [hk]; rfl) ih (by simpa using hw) (by simp only [OpM,hk]; exact ⟨_,rfl,h1⟩)
  | @lone o os e H v r hw hk hn h1 _ ih=>exact recOk_cons_same (v:=some v) (by rw [hk]; rfl) ih (by simpa using hw) (fun _=>by simp only [OpM,hk]; exact ⟨hn,h1⟩)
  | @fresh o os e H v r hw hk h1 _ ih=>exact recOk_cons_write (v:=some v.1) (by rw [hk]; rfl) ih (by simpa using hw) (by simp only [OpM,hk]; exact ⟨_,rfl,h1⟩)
  | @other o os e H v r hw hk1 hk2 h1 _ ih =>
    refine recOk_cons_same (v:=some v.1) hk1 ih (by simpa using hw) (fun _=>?_)
    simp only [OpM]
    cases hkk:o.k with
    | write=>rw [hkk] at hk1; cases hk1
    | fresh=>rw [hkk] at hk1; cases hk1
    | lone=>exact absurd hkk hk2
    | _=>exact ⟨v.2,h1⟩
theorem stables_get:∀ {ds:List DO} {recs:List (Fr×Option AV)} {Hs:List (List Obj)},recs.length = ds.length→stables ds recs Hs →
    ∀ (i:Nat) (d:DO) (e:Fr) (x:AV),ds[i]? = some d→recs[i]? = some (e,some x)→d.k = .read→∀ m H,d.lo ≤ m→m ≤ d.hi→Hs[m]? = some H→evOp e H d.o.op = some (x,H)
  | [],recs,Hs,hl,_,i,d,e,x,h,_,_,_,_,_,_,_=>by simp at h
  | o::os,[],Hs,hl,_,_,_,_,_,_,_,_,_,_,_,_,_=>by simp at hl
  | o::os,(e0,v0)::recs,Hs,hl,hs,i,d,e,x,hd,hr,hk,m,H,h1,h2,h3=>by
    have rest:stables os recs Hs:=by
      cases v0 with
      | none=>simpa [stables] using hs
      | some v=>simp only [stables] at hs; exact hs.2
    cases i with
    | succ i=>simp at hd hr; exact stables_get (by simpa using hl) rest i d e x hd hr hk m H h1 h2 h3
    | zero =>
      simp at hd hr
      obtain ⟨rfl,rfl⟩:=hr
      subst hd
      simp only [stables,hk] at hs
      have mem:H ∈ (Hs.drop o.lo).take (o.hi + 1 - o.lo):=by
        refine List.mem_iff_getElem?.2 ⟨m - o.lo,?_⟩
        rw [List.getElem?_take,if_pos (by omega),List.getElem?_drop]
        rw [← h3]; congr 1; omega
      have all:∀ {l:List (List Obj)},stable o.o.op e0 x l→∀ H ∈ l,evOp e0 H o.o.op = some (x,H):=by
        intro l
        induction l with
        | nil=>intro _ H h; cases h
        | cons a l ih =>
          intro h H hm
          simp only [stable] at h
          rcases List.mem_cons.1 hm with rfl | hm
          · exact h.1
          · exact ih h.2 H hm
      exact all hs.1 H mem
end Go.Proofs.YtepbfecmageleaaGreatDoor
namespace Go.Proofs.YtepbfecmageleaaGreatDoor
open Go
variable [Sub]
inductive Need (ops:List Oper):Nat→Nat→Prop
  | edge {i:Nat} {o:Oper} {e:Edge} (h:ops[i]? = some o) (he:e ∈ o.after.toList) (hb:Region.binds .any e = true):Need ops i e.on
  | trans {i j k:Nat} (h1:Need ops i j) (h2:Need ops j k):Need ops i k
theorem fold_bits {acc:List Nat}:∀ {es:List Edge} {s j:Nat},(es.foldl (fun s e=>if Region.binds .any e then s ||| 2 ^ e.on ||| acc.getD e.on 0 else s) s).testBit j = true →
    s.testBit j = true∨∃ e ∈ es,Region.binds .any e = true∧(e.on = j∨(acc.getD e.on 0).testBit j = true)
  | [],s,j,h=>.inl h
  | e::es,s,j,h=>by
    simp only [List.foldl_cons] at h
    rcases fold_bits h with h1 | ⟨e',h1,h2⟩
    · split at h1
      · rename_i hb
        simp only [Nat.testBit_or,Nat.testBit_two_pow,Bool.or_eq_true,decide_eq_true_eq] at h1
        rcases h1 with (h1 | h1) | h1
        · exact .inl h1
        · exact .inr ⟨e,List.mem_cons_self ..,hb,.inl h1⟩
        · exact .inr ⟨e,List.mem_cons_self ..,hb,.inr h1⟩
      · exact .inl h1
    · exact .inr ⟨e',List.mem_cons_of_mem _ h1,h2⟩
theorem befs_need {ops:List Oper}:∀ (l:List Oper) (acc:List Nat) (pre:List Oper),ops = pre++l→pre.length = acc.length→(∀ i j,(acc.getD i 0).testBit j = true→Need ops i j) →
    ∀ i j,((befs l acc).getD i 0).testBit j = true→Need ops i j
  | [],acc,pre,_,_,h,i,j,hb=>h i j hb
  | o::l,acc,pre,ho,hl,h,i,j,hb=>by
    refine befs_need l _ (pre++[o]) (by rw [ho]; simp) (by simp [hl]) (fun i j hb=>?_) i j hb
    rw [List.getD_eq_getElem?_getD,List.getElem?_append] at hb
    split at hb
    · exact h i j (by rw [List.getD_eq_getElem?_getD]; exact hb)
    · rename_i hge
      by_cases hi:i = acc.length
      · subst hi
        simp only [Nat.sub_self,List.getElem?_cons_zero,Option.getD_some] at hb
        have hget:ops[acc.length]? = some o:=by rw [ho,List.getElem?_append_right (by omega),hl]; simp
        rcases fold_bits hb with h1 | ⟨e,h1,h2,h3⟩
        · simp at h1
        · rcases h3 with h3 | h3
          · rw [← h3]; exact .edge hget h1 h2
          · exact .trans (.edge hget h1 h2) (h _ _ h3)
      · have:([o.after.toList.foldl (fun s e=>if Region.binds .any e then s ||| 2 ^ e.on ||| acc.getD e.on 0 else s) 0]:List Nat)[i - acc.length]? = none:=by
          rw [List.getElem?_eq_none_iff]; simp; omega
        rw [this] at hb
        simp at hb
theorem waits_need {ops:List Oper} {i j:Nat} (h:waits (befs ops []) i j = true):Need ops i j:=by
  refine befs_need ops [] [] rfl rfl (fun i j hb=>?_) i j h
  simp at hb
def Shut' (ops:List Oper) (L:Nat→Bool):Prop:=∀ i o e,ops[i]? = some o→L i = true→e ∈ o.after.toList→Region.binds .any e = true→L e.on = true
theorem Shut'.need {ops:List Oper} {L:Nat→Bool} (h:Shut' ops L) {i j:Nat} (hn:Need ops i j):L i = true→L j = true:=by
  induction hn with
  | edge ho he hb=>exact fun hi=>h _ _ _ ho hi he hb
  | trans _ _ ih1 ih2=>exact fun hi=>ih2 (ih1 hi)
theorem ready_need {ops:List Oper} {L:Nat→Bool} (h:Shut' ops L) {i j:Nat} (hr:∀ o e,ops[i]? = some o→e ∈ o.after.toList→Region.binds .any e = true→L e.on = true) (hn:Need ops i j):L j = true:=by
  have:∀ {i j},Need ops i j→(∀ o e,ops[i]? = some o→e ∈ o.after.toList→Region.binds .any e = true→L e.on = true)→L j = true:=by
    intro i j hn
    induction hn with
    | edge ho he hb=>exact fun hr=>hr _ _ ho he hb
    | trans _ h2 ih1 _=>exact fun hr=>h.need h2 (ih1 hr)
  exact this hn hr
theorem need_lt {ops:List Oper} (hd:∀ i o e,ops[i]? = some o→e ∈ o.after.toList→Region.binds .any e = true→e.on < i) {i j:Nat} (hn:Need ops i j):j < i:=by
  induction hn with
  | edge ho he hb=>exact hd _ _ _ ho he hb
  | trans _ _ h1 h2=>omega
structure DrawOk (ops:List Oper) (sos:List SO) (ds:List DO):Prop where
  len:ds.length = sos.length
  op:∀ (i:Nat) (d:DO),ds[i]? = some d→sos[i]? = some d.o
  keys:∀ (i d:Nat) (so so':SO),sos[i]? = some so→sos[d]? = some so'→d ≠ i→∀ t ∈ so'.dst.key,t ∈ soKeys so→Need ops i d∨Need ops d i
  ws:∀ i j,isW ds i = true→isF ds i = false→isW ds j = true→j < i→Need ops i j
  below:∀ i o e k,ops[i]? = some o→e ∈ o.after.toList→Region.binds .any e = true→isF ds e.on = true→isW ds k = true→k < e.on→Need ops i k
  fresh:∀ (i:Nat) (d:DO),ds[i]? = some d→d.k = .fresh→isFresh d.o.op = true∧d.o.guard = none
  down:∀ i o e,ops[i]? = some o→e ∈ o.after.toList→Region.binds .any e = true→e.on < i
  free:∀ (i:Nat) (d:DO),ds[i]? = some d→d.k = .free→kind0 d.o.op = .free
  read:∀ (i:Nat) (d:DO),ds[i]? = some d→(d.k = .here∨d.k = .read)→kind0 d.o.op = .read ∧
    d.lo ≤ ((List.range ds.length).filter fun j=>isW ds j && waits (befs ops []) i j).length∧((List.range ds.length).filter fun j=>isW ds j && !(waits (befs ops []) j i)).length ≤ d.hi∧(d.k = .here→d.lo = d.hi)
theorem mkDs_get {sos:List SO} {k:Nat→DK} {lo hi:Nat→Nat} {i:Nat} {d:DO} (h:(mkDs sos k lo hi)[i]? = some d):sos[i]? = some d.o:=by
  simp only [mkDs,List.getElem?_map,Option.map_eq_some_iff,List.getElem?_zipIdx] at h
  obtain ⟨p,⟨o,ho,rfl⟩,rfl⟩:=h
  exact ho
theorem ordered_need {ops:List Oper} {i j:Nat} (h:ordered (befs ops []) i j = true):Need ops i j∨Need ops j i:=by
  simp only [ordered,Bool.or_eq_true] at h
  rcases h with h | h
  · exact .inl (waits_need h)
  · exact .inr (waits_need h)
theorem drawB_ok {ops:Array Oper} {sos:List SO} {k:Nat→DK} {lo hi:Nat→Nat} (h:drawB ops sos (mkDs sos k lo hi) = true):DrawOk ops.toList sos (mkDs sos k lo hi):=by
  have hl:(mkDs sos k lo hi).length = sos.length:=by simp [mkDs]
  simp only [drawB,Bool.and_eq_true] at h
  obtain ⟨⟨⟨⟨h1,h2⟩,h5⟩,h3⟩,h4⟩:=h
  have lt:∀ {α:Type} {l:List α} {i:Nat} {x:α},l[i]? = some x→i < l.length:=fun h=>(List.getElem?_eq_some_iff.1 h).1
  have kind:∀ (i:Nat) (d:DO),(mkDs sos k lo hi)[i]? = some d→kindB (befs ops.toList []) (mkDs sos k lo hi) i = true:=fun i d hd =>
    List.all_eq_true.1 h4 i (List.mem_range.2 (by rw [← hl]; exact lt hd))
  have hin:∀ j,isW (mkDs sos k lo hi) j = true→j < sos.length:=fun j hj=>by
    unfold isW at hj
    split at hj
    · rename_i d hd; rw [← hl]; exact lt hd
    · cases hj
  refine ⟨hl,fun i d hd=>mkDs_get hd,fun i d so so' hi' hd hne t ht hk=>?_,fun i j hi' hf hj hlt=>?_,fun i o e k' ho he hb hf hk hlt=>?_,fun i d hd hk=>?_,fun i o e ho he hb=>?_,fun i d hd hk=>?_,fun i d hd hk=>?_⟩
  · have:=List.all_eq_true.1 (List.all_eq_true.1 h1 i (List.mem_range.2 (lt hi'))) d (List.mem_range.2 (lt hd))
    simp only [keysB,hi',hd,Bool.or_eq_true,beq_iff_eq] at this
    rcases this with (h0 | h0) | h0
    · exact absurd h0 hne
    · exact ordered_need h0
    · simp only [Bool.not_eq_true',List.any_eq_false] at h0
      exact absurd (by simpa using hk) (h0 t ht)
  · have:=List.all_eq_true.1 (List.all_eq_true.1 h2 i (List.mem_range.2 (hin i hi'))) j (List.mem_range.2 (hin j hj))
    simp only [hi',hj,hf,hlt,decide_true,Bool.and_self,Bool.not_true,Bool.or_false,Bool.false_or] at this
    exact waits_need this
  · have:=List.all_eq_true.1 h5 (o,i) (List.mem_iff_getElem?.2 ⟨i,by simp [List.getElem?_zipIdx,ho]⟩)
    have:=List.all_eq_true.1 this e he
    simp only [hb,hf,Bool.not_true,Bool.false_or] at this
    have:=List.all_eq_true.1 this k' (List.mem_range.2 (hin k' hk))
    simp only [hlt,hk,decide_true,Bool.not_true,Bool.false_or] at this
    exact waits_need this
  · have:=kind i d hd
    simp only [kindB,hd,hk,Bool.and_eq_true,Option.isNone_iff_eq_none] at this
    exact this
  · have:=List.all_eq_true.1 h3 (o,i) (List.mem_iff_getElem?.2 ⟨i,by simp [List.getElem?_zipIdx,ho]⟩)
    have:=List.all_eq_true.1 this e he
    simpa [hb] using this
  · have:=kind i d hd
    simp only [kindB,hd,hk,beq_iff_eq] at this
    exact this
  · have:=kind i d hd
    rcases hk with hk | hk
    · simp only [kindB,hd,hk,Bool.and_eq_true,beq_iff_eq,decide_eq_true_eq] at this
      exact ⟨this.1.1.1,this.1.1.2,this.1.2,fun _=>this.2⟩
    · simp only [kindB,hd,hk,Bool.and_eq_true,beq_iff_eq,decide_eq_true_eq] at this
      exact ⟨this.1.1,this.1.2,this.2,fun h=>by rw [hk] at h; cases h⟩
theorem compDraw_ok {lone:FuncId→Bool} {ops:Array Oper} {sos:List SO} {ds:List DO} (h:compDraw lone ops sos = some ds):DrawOk ops.toList sos ds:=by
  simp only [compDraw] at h
  split at h
  · rename_i hb
    cases h
    exact drawB_ok hb
  · cases h
end Go.Proofs.YtepbfecmageleaaGreatDoor
namespace Go.Proofs.YtepbfecmageleaaGreatDoor
open Go
variable [Sub]
def hits:SD→SA→Bool
  | .t n,.t m=>n == m
  | .x n,.x m=>n == m
  | _,_=>false
theorem hits_key {sd:SD} {k:SA} (h:hits sd k = true):∃ n,n ∈ sd.key∧n ∈ k.key:=by
  cases sd <;> cases k <;> simp only [hits] at h <;> try (cases h; done)
  all_goals (simp only [beq_iff_eq] at h; subst h; simp [SD.key,SA.key])
theorem ev_put (sd:SD) (e:Fr) (v:AV) (k:SA):ev (dstPut sd e v) k = if hits sd k = true then some v else ev e k:=by
  cases sd <;> cases k <;> simp [dstPut,ev,hits,lk,lk_upd]
theorem EnvRel.congr {w:World} {g:Gh} {H:List Obj} {tmps:Array Value} {e e':Fr} (h:EnvRel w g H tmps e) (he:∀ k,ev e' k = ev e k):EnvRel w g H tmps e' :=
  ⟨fun t v hv=>h.loc t v ((he (.t t)).symm.trans hv),fun t v hv=>h.env t v ((he (.x t)).symm.trans hv)⟩
theorem FrOk.congr {vars:List Nat} {e e':Fr} (h:FrOk vars e) (he:∀ k,ev e' k = ev e k):FrOk vars e' :=
  ⟨fun t v hv=>h.loc t v ((he (.t t)).symm.trans hv),fun t v hv=>h.env t v ((he (.x t)).symm.trans hv)⟩
def envL (e0:Fr) (dst:Nat→SD) (val:Nat→AV) (L:Nat→Bool):Nat→Fr
  | 0=>e0
  | k + 1=>if L k = true then dstPut (dst k) (envL e0 dst val L k) (val k) else envL e0 dst val L k
section
variable {e0:Fr} {dst:Nat→SD} {val:Nat→AV} {L:Nat→Bool}
theorem envL_below {i:Nat}:∀ {k:Nat},i ≤ k→envL e0 dst val (fun j=>decide (j < i)) k = envL e0 dst val (fun _=>true) i
  | 0,h=>by
               have:i = 0:=by omega
               subst this; rfl
  | k + 1,h=>by
    by_cases hk:i ≤ k
    · simp only [envL]
      rw [if_neg (by simp; omega)]
      exact envL_below hk
    · have:i = k + 1:=by omega
      subst this
      have key:∀ m,m ≤ k + 1→envL e0 dst val (fun j=>decide (j < k + 1)) m = envL e0 dst val (fun _=>true) m:=by
        intro m
        induction m with
        | zero=>intro _; rfl
        | succ m ih =>
          intro hm
          simp only [envL]
          rw [if_pos (by simp; omega),ih (by omega)]; simp
      exact key _ (Nat.le_refl _)
theorem envL_look {i:Nat} {x:SA}:∀ {k:Nat},(∀ j,j < k→hits (dst j) x = true→(L j = true↔j < i))→ev (envL e0 dst val L k) x = ev (envL e0 dst val (fun j=>decide (j < i)) k) x
  | 0,_=>rfl
  | k + 1,h=>by
    have ih:=envL_look (k:=k) (fun j hj=>h j (by omega))
    simp only [envL]
    by_cases hk:hits (dst k) x = true
    · have:=h k (by omega) hk
      by_cases hl:L k = true
      · rw [if_pos hl,if_pos (by simpa using this.1 hl),ev_put,ev_put,if_pos hk,if_pos hk]
      · rw [if_neg hl,if_neg (by simpa using fun h'=>hl (this.2 h'))]; exact ih
    · have e1:∀ (b:Bool) (e:Fr),ev (if b = true then dstPut (dst k) e (val k) else e) x = ev e x:=fun b e=>by
        cases b
        · rfl
        · simp only [if_true]; rw [ev_put,if_neg hk]
      rw [e1,e1]; exact ih
theorem envL_add {i:Nat} {x:SA} (hi:L i = false):∀ {k:Nat},(∀ j,i < j→j < k→L j = true→¬ (hits (dst j) x = true∧hits (dst i) x = true)) →
    ev (envL e0 dst val (fun j=>j == i || L j) k) x = if i < k∧hits (dst i) x = true then some (val i) else ev (envL e0 dst val L k) x
  | 0,_=>by rw [if_neg (by omega)]; rfl
  | k + 1,h=>by
    have ih:=envL_add hi (k:=k) (fun j h1 h2=>h j h1 (by omega))
    simp only [envL]
    by_cases hk:k = i
    · subst hk
      have t1:(fun j=>j == k || L j) k = true:=by simp
      have e1:(if L k = true then dstPut (dst k) (envL e0 dst val L k) (val k) else envL e0 dst val L k) = envL e0 dst val L k:=by rw [hi]; rfl
      rw [if_pos t1,e1,ev_put,ih]
      by_cases hh:hits (dst k) x = true
      · rw [if_pos hh,if_pos ⟨by omega,hh⟩]
      · rw [if_neg hh,if_neg (fun h=>hh h.2),if_neg (fun h=>hh h.2)]
    · by_cases hl:L k = true
      · have t1:(fun j=>j == i || L j) k = true:=by simp [hl]
        rw [if_pos t1,if_pos hl,ev_put,ev_put,ih]
        by_cases hkk:hits (dst k) x = true
        · rw [if_pos hkk,if_pos hkk]
          split
          · rename_i hc
            exact absurd ⟨hkk,hc.2⟩ (h k (by omega) (by omega) hl)
          · rfl
        · rw [if_neg hkk,if_neg hkk]
          by_cases hc:i < k∧hits (dst i) x = true
          · rw [if_pos hc,if_pos ⟨by omega,hc.2⟩]
          · rw [if_neg hc,if_neg (fun h=>hc ⟨by omega,h.2⟩)]
      · have t1:¬ (fun j=>j == i || L j) k = true:=by simp [hl,hk]
        rw [if_neg t1,if_neg hl,ih]
        by_cases hc:i < k∧hits (dst i) x = true
        · rw [if_pos hc,if_pos ⟨by omega,hc.2⟩]
        · rw [if_neg hc,if_neg (fun h=>hc ⟨by omega,h.2⟩)]
end
theorem envs_succ:∀ {ds:List DO} {recs:List (Fr×Option AV)} {e:Fr} {i:Nat} {d:DO} {p:Fr×Option AV},ds[i]? = some d→recs[i]? = some p →
    envs e ds recs (i + 1) = dstPut d.o.dst (envs e ds recs i) (dval p.2)
  | [],_,_,i,d,p,h,_=>by simp at h
  | _::_,[],_,i,d,p,_,h=>by simp at h
  | d0::ds,(e1,v1)::recs,e,0,d,p,h1,h2=>by
    simp at h1 h2
    subst h1
    subst h2
    cases ds <;> cases recs <;> simp [envs]
  | d0::ds,(e1,v1)::recs,e,i + 1,d,p,h1,h2=>by
    simp at h1 h2
    simp only [envs]
    exact envs_succ h1 h2
def dstOf (ds:List DO) (k:Nat):SD:=match ds[k]? with | some d=>d.o.dst | none=>.no
def valOf (recs:List (Fr×Option AV)) (k:Nat):AV:=match recs[k]? with | some p=>dval p.2 | none=>.tup []
theorem envs_envL {ds:List DO} {recs:List (Fr×Option AV)} {e:Fr} (hl:recs.length = ds.length):∀ {i:Nat},i ≤ ds.length→envs e ds recs i = envL e (dstOf ds) (valOf recs) (fun _=>true) i
  | 0,_=>by cases ds <;> simp [envs,envL]
  | i + 1,h=>by
    have h1:ds[i]? = some ds[i]:=by simp
    have h2:recs[i]? = some (recs[i]'(by omega)):=by simp
    rw [envs_succ h1 h2,envs_envL hl (by omega)]
    simp [envL,dstOf,valOf,h1,h2]
end Go.Proofs.YtepbfecmageleaaGreatDoor
namespace Go.Proofs.YtepbfecmageleaaGreatDoor
open Go
variable [Sub]
def mOf (ds:List DO) (L:Nat→Bool):Nat→Nat
  | 0=>0
  | k + 1=>mOf ds L k + if isW ds k && L k then 1 else 0
theorem mOf_filter {ds:List DO} {L:Nat→Bool}:∀ k,mOf ds L k = ((List.range k).filter fun j=>isW ds j && L j).length
  | 0=>rfl
  | k + 1=>by
    rw [List.range_succ,List.filter_append,List.length_append,mOf,mOf_filter k]
    congr 1
    cases h:isW ds k && L k <;> simp [List.filter,h]
theorem mOf_le {ds:List DO} {L L':Nat→Bool}:∀ {k},(∀ j,j < k→isW ds j = true→L j = true→L' j = true)→mOf ds L k ≤ mOf ds L' k
  | 0,_=>Nat.le_refl _
  | k + 1,h=>by
    have ih:=mOf_le (L:=L) (L':=L') (k:=k) (fun j hj=>h j (by omega))
    simp only [mOf]
    have:=h k (by omega)
    cases h1:isW ds k <;> cases h2:L k <;> cases h3:L' k <;> simp [h1,h2,h3] at this ⊢ <;> omega
theorem mOf_congr {ds:List DO} {L L':Nat→Bool} {k:Nat} (h:∀ j,j < k→isW ds j = true→L j = L' j):mOf ds L k = mOf ds L' k :=
  Nat.le_antisymm (mOf_le fun j hj hw hl=>by rw [← h j hj hw]; exact hl) (mOf_le fun j hj hw hl=>by rw [h j hj hw]; exact hl)
theorem mOf_add {ds:List DO} {L:Nat→Bool} {i:Nat} (hi:L i = false):∀ k,mOf ds (fun j=>j == i || L j) k = mOf ds L k + if decide (i < k) && isW ds i then 1 else 0
  | 0=>by simp [mOf]
  | k + 1=>by
    simp only [mOf,mOf_add hi k]
    by_cases hk:k = i
    · subst hk
      simp [hi]
    · have h1:(decide (i < k + 1)) = decide (i < k):=by
        by_cases h:i < k
        · simp [h]; omega
        · simp [h]; omega
      simp only [h1,hk,beq_iff_eq,beq_eq_false_iff_ne.2 hk,Bool.false_or]
      omega
theorem cnt_succ:∀ {ds:List DO} {i:Nat},i < ds.length→cnt ds (i + 1) = cnt ds i + if isW ds i then 1 else 0
  | [],i,h=>by simp at h
  | d::ds,0,_=>by
    have e1:isW (d::ds) 0 = d.k.seq:=by simp [isW]
    have e2:cnt (d::ds) 1 = if d.k.seq then 1 else 0:=by cases ds <;> simp [cnt]
    have e3:cnt (d::ds) 0 = 0:=by simp [cnt]
    rw [e1,e2,e3,Nat.zero_add]
  | d::ds,i + 1,h=>by
    have ih:=cnt_succ (ds:=ds) (i:=i) (by simpa using h)
    have e1:isW (d::ds) (i + 1) = isW ds i:=by simp [isW]
    simp only [cnt,e1]
    rw [ih]
    omega
theorem cnt_mOf {ds:List DO}:∀ {i},i ≤ ds.length→cnt ds i = mOf ds (fun _=>true) i
  | 0,_=>by cases ds <;> rfl
  | i + 1,h=>by
    rw [cnt_succ (by omega),cnt_mOf (by omega)]
    simp [mOf]
theorem mOf_below {ds:List DO} {i:Nat}:∀ {k},i ≤ k→mOf ds (fun j=>decide (j < i)) k = mOf ds (fun _=>true) i
  | 0,h=>by
               have:i = 0:=by omega
               subst this; rfl
  | k + 1,h=>by
    by_cases hk:i ≤ k
    · simp only [mOf,mOf_below hk]
      have:decide (k < i) = false:=by simp; omega
      simp [this]
    · have:i = k + 1:=by omega
      subst this
      exact mOf_congr fun j hj _=>by simp [hj]
theorem compOps_get {P:Program} {kn:TypeId→Bool} {nt:Nat} {vars:List Nat} {ops:Array Oper}:∀ {l:List Oper} {own:List Nat} {sos:List SO},compOps P kn nt vars ops l own = some sos →
    sos.length = l.length∧∀ (i:Nat) (o:Oper) (so:SO),l[i]? = some o→sos[i]? = some so→∃ own',compOp P kn own' o = some so.op∧DstOk nt vars o.dst so.dst ∧
      (match o.guard with
      | none=>some none
      | some (j,b)=>((ops[j]?).bind (·.dst)).map fun t=>some (if own'.contains t then SA.t t else SA.x t,b)) = some so.guard
  | [],own,sos,h=>by
    simp only [compOps,Option.some.injEq] at h
    subst h
    exact ⟨rfl,fun i o so h=>by simp at h⟩
  | o::l,own,sos,h=>by
    simp only [compOps,Option.bind_eq_some_iff] at h
    obtain ⟨op,hop,g,hg,h⟩:=h
    have fin:∀ (so:SO) (rest:List SO) (own2:List Nat),so.op = op→so.guard = g→DstOk nt vars o.dst so.dst→compOps P kn nt vars ops l own2 = some rest→sos = so::rest →
        sos.length = (o::l).length∧∀ (i:Nat) (o':Oper) (so':SO),(o::l)[i]? = some o'→sos[i]? = some so'→∃ own',compOp P kn own' o' = some so'.op∧DstOk nt vars o'.dst so'.dst ∧
          (match o'.guard with
          | none=>some none
          | some (j,b)=>((ops[j]?).bind (·.dst)).map fun t=>some (if own'.contains t then SA.t t else SA.x t,b)) = some so'.guard:=fun so rest own2 h1 h2 h3 h4 h5=>by
      subst h5
      obtain ⟨k1,k2⟩:=compOps_get h4
      refine ⟨by simp [k1],fun i o' so' ho hso=>?_⟩
      cases i with
      | zero =>
        simp at ho hso
        subst ho
        subst hso
        exact ⟨own,by rw [h1]; exact hop,h3,by rw [h2]; exact hg⟩
      | succ i=>simp at ho hso; exact k2 i o' so' ho hso
    cases hd:o.dst with
    | none =>
      simp only [hd,Option.map_eq_some_iff] at h
      obtain ⟨rest,hrest,rfl⟩:=h
      exact fin _ rest own rfl rfl (.inl ⟨hd,rfl⟩) hrest rfl
    | some d =>
      simp only [hd] at h
      split at h
      · rename_i hlt
        split at h
        · rename_i hin
          simp only [Option.map_eq_some_iff] at h
          obtain ⟨rest,hrest,rfl⟩:=h
          exact fin _ rest own rfl rfl (.inr ⟨d,hd,hlt,.inl ⟨by simpa using hin,rfl⟩⟩) hrest rfl
        · rename_i hin
          simp only [Option.map_eq_some_iff] at h
          obtain ⟨rest,hrest,rfl⟩:=h
          exact fin _ rest (d::own) rfl rfl (.inr ⟨d,hd,hlt,.inr ⟨by simpa using hin,rfl⟩⟩) hrest rfl
      · cases h
end Go.Proofs.YtepbfecmageleaaGreatDoor
namespace Go.Proofs.YtepbfecmageleaaGreatDoor
open Go
variable [Sub]
theorem evo_adopt {w0 w:World} {g0 g:Gh} {H0 H:List Obj} {b cap:Nat} {o:Obj} (he:Evo w0 g0 H0 w g H) (hs:StRel w g H) (hb:w0.heap.size ≤ b) (hn:¬ IsBlk g H b) (hD:∀ i,¬ g.D b i)
    (hfz:∀ es f v rows,o ≠ .arr es (some f) v rows)
    (hnew:(∀ c a,Rep w g H c a→Rep w (g.add H.length b 0 cap) (H++[o]) c a)→ObjRel w (g.add H.length b 0 cap) (H++[o]) H.length o) :
    Evo w0 g0 H0 w (g.add H.length b 0 cap) (H++[o])∧StRel w (g.add H.length b 0 cap) (H++[o])∧(∀ c a,Rep w g H c a→Rep w (g.add H.length b 0 cap) (H++[o]) c a):=by
  have hne:∀ l,l < H.length→l ≠ H.length:=fun l h=>by omega
  have hr:∀ c a,Rep w g H c a→Rep w (g.add H.length b 0 cap) (H++[o]) c a:=fun c a h=>h.step (w:=w) (g:=g) (g':=g.add H.length b 0 cap) (H':=H++[o]) (fun _ _ h=>h) (fun _ _ _=>rfl) (fun l o' hl=>by
    have hlt:l < H.length:=(List.getElem?_eq_some_iff.1 hl).1
    obtain ⟨h1,h2,h3⟩:=Gh.add_ne (g:=g) (blk:=b) (base:=0) (cap:=cap) (hne l hlt)
    exact .same (by rw [List.getElem?_append_left hlt]) h1 h2 h3)
  have hlen:(H++[o]).length = H.length + 1:=by simp
  have hnb:∀ l,l < H.length→g.blk l ≠ b:=fun l hl e=>hn ⟨l,hl,e⟩
  refine ⟨⟨he.D,he.cells,fun c a h=>hr c a (he.rep c a h),he.keep,fun b' i ho=>?_,he.newD,he.cd⟩,⟨fun l o' hl=>?_,fun l k hl hk e=>?_,fun l o' hl=>?_,hs.dom⟩,hr⟩
  · obtain ⟨⟨l,hl,rfl⟩,hd⟩:=ho
    rw [hlen] at hl
    by_cases e:l = H.length
    · subst e; right; rw [Gh.add_eq.1]; exact hb
    · rw [(Gh.add_ne e).1] at hd ⊢
      exact he.own _ _ ⟨⟨l,by omega,rfl⟩,hd⟩
  · rcases Nat.lt_or_ge l H.length with hl' | hge
    · rw [List.getElem?_append_left hl'] at hl
      obtain ⟨h1,h2,h3⟩:=Gh.add_ne (g:=g) (blk:=b) (base:=0) (cap:=cap) (hne l hl')
      exact (hs.objs l o' hl).keep h1 h2 h3 rfl (fun _ _ h=>h) (fun _ _ _=>rfl) hr
    · have hl':l = H.length:=by have:=(List.getElem?_eq_some_iff.1 hl).1; omega
      subst hl'
      simp at hl
      subst hl
      exact hnew hr
  · rw [hlen] at hl hk
    by_cases e1:l = H.length <;> by_cases e2:k = H.length
    · omega
    · subst e1; rw [Gh.add_eq.1,(Gh.add_ne e2).1] at e; exact absurd e.symm (hnb k (by omega))
    · subst e2; rw [Gh.add_eq.1,(Gh.add_ne e1).1] at e; exact absurd e (hnb l (by omega))
    · rw [(Gh.add_ne e1).1,(Gh.add_ne e2).1] at e; exact hs.inj l k (by omega) (by omega) e
  · rcases Nat.lt_or_ge l H.length with hl' | hge
    · rw [List.getElem?_append_left hl'] at hl
      obtain ⟨h1,h2,h3⟩:=Gh.add_ne (g:=g) (blk:=b) (base:=0) (cap:=cap) (hne l hl')
      exact (hs.stand l o' hl).keep h1 h2 (fun _ h=>h)
    · have hl':l = H.length:=by have:=(List.getElem?_eq_some_iff.1 hl).1; omega
      subst hl'
      simp at hl
      subst hl
      have hno:∀ i,¬ (g.add H.length b 0 cap).D ((g.add H.length b 0 cap).blk H.length) i:=fun i hd=>by
        rw [Gh.add_eq.1] at hd
        exact hD i hd
      cases o with
      | cells c=>exact hno
      | arr es fz ver rows =>
        cases fz with
        | none=>exact hno
        | some f=>exact absurd rfl (hfz es f ver rows)
      | map es=>exact hno
      | loop=>exact hno
end Go.Proofs.YtepbfecmageleaaGreatDoor
namespace Go.Proofs.YtepbfecmageleaaGreatDoor
open Go
variable [Sub]
def Holds (w:World) (g:Gh) (H:List Obj) (b:Nat) (cv:Value):Obj→Prop
  | .cells c=>cv = .pointer (some ⟨b,0,none⟩)∧∃ vs e,w.heap[b]? = some (.cells vs e (0,0))∧vs.size = c.length∧∀ (i:Nat) (v:Value) (x:AV),vs[i]? = some v→c[i]? = some x→Rep w g H v x∧v.oneCell' = true
  | .arr es none 0 rows=>∃ cap vs e,cv = .slice (some ⟨b,0,none⟩) rows.length cap∧w.heap[b]? = some (.cells vs e (0,0))∧rows.length ≤ cap∧(∀ r ∈ rows,r.length = es)∧cap * es ≤ vs.size ∧
      ∀ (i j:Nat) (row:List PV) (x:PV),rows[i]? = some row→row[j]? = some x→∃ c,vs[i * es + j]? = some c∧RepP w g.D c x
  | _=>False
structure Pend (n0:Nat) (w:World) (g:Gh) (H:List Obj) (b:Nat) (cv:Value) (o:Obj):Prop where
  ge:n0 ≤ b
  lt:b < w.heap.size
  own:¬ IsBlk g H b
  free:∀ i,¬ g.D b i
  holds:Holds w g H b cv o
theorem Pend.keep {n0:Nat} {w w':World} {g g':Gh} {H H':List Obj} {b:Nat} {cv:Value} {o:Obj} (h:Pend n0 w g H b cv o) (he:Evo w g H w' g' H') (hs':StRel w' g' H'):Pend n0 w' g' H' b cv o:=by
  have hno:∀ i,¬ OwnAny g H b i:=fun i ho=>h.own ho.1
  have hheap:w'.heap[b]? = w.heap[b]?:=he.keep.same h.lt hno
  have hfree:∀ i,¬ g'.D b i:=fun i hd=>by
    rcases he.newD b i hd with h1 | h1 | h1
    · exact h.free i h1
    · exact hno i h1
    · have:=h.lt; omega
  refine ⟨h.ge,Nat.lt_of_lt_of_le h.lt he.keep.2.2.2.1,fun hb=>?_,hfree,?_⟩
  · rcases he.own b 0 ⟨hb,hfree 0⟩ with h1 | h1
    · exact hno 0 h1
    · have:=h.lt; omega
  · have hh:=h.holds
    cases o with
    | cells c =>
      obtain ⟨h1,vs,e,h2,h3,h4⟩:=hh
      exact ⟨h1,vs,e,by rw [hheap]; exact h2,h3,fun i v x hv hx=>⟨he.rep _ _ (h4 i v x hv hx).1,(h4 i v x hv hx).2⟩⟩
    | arr es fz ver rows =>
      cases fz with
      | some f=>exact hh.elim
      | none =>
        cases ver with
        | succ k=>exact hh.elim
        | zero =>
          obtain ⟨cap,vs,e,h1,h2,h3,h4,h5,h6⟩:=hh
          exact ⟨cap,vs,e,h1,by rw [hheap]; exact h2,h3,h4,h5,fun i j row x hi hj=>let ⟨c,k1,k2⟩:=h6 i j row x hi hj; ⟨c,k1,k2.mono he.D he.cells⟩⟩
    | map es=>exact hh.elim
    | loop=>exact hh.elim
theorem Pend.adopt {w0 w:World} {g0 g:Gh} {H0 H:List Obj} {b:Nat} {cv:Value} {o:Obj} (h:Pend w0.heap.size w g H b cv o) (he:Evo w0 g0 H0 w g H) (hs:StRel w g H) :
    ∃ g',Evo w0 g0 H0 w g' (H++[o])∧StRel w g' (H++[o])∧(∀ c a,Rep w g H c a→Rep w g' (H++[o]) c a)∧g'.D = g.D∧(∀ b',b' ≠ b→¬ IsBlk g H b'→¬ IsBlk g' (H++[o]) b') ∧
      Rep w g' (H++[o]) cv (match o with | .cells _=>.ptr H.length 0 | .arr _ _ _ rows=>.ar H.length 0 0 rows.length | .map _=>.map H.length | .loop ..=>.yld H.length):=by
  have other:∀ cap b',b' ≠ b→¬ IsBlk g H b'→¬ IsBlk (g.add H.length b 0 cap) (H++[o]) b':=fun cap b' hne hn ⟨l,hl,hb⟩=>by
    rw [List.length_append,List.length_singleton] at hl
    by_cases e:l = H.length
    · subst e; rw [Gh.add_eq.1] at hb; exact hne hb.symm
    · rw [(Gh.add_ne e).1] at hb; exact hn ⟨l,by omega,hb⟩
  have hh:=h.holds
  cases o with
  | cells c =>
    obtain ⟨rfl,vs,e,h2,h3,h4⟩:=hh
    obtain ⟨k1,k2,k3⟩:=evo_adopt (cap:=0) (o:=.cells c) he hs h.ge h.own h.free (fun _ _ _ _ h=>by cases h)
      (fun hr=>⟨vs,e,by rw [Gh.add_eq.1]; exact h2,h3,fun i v x hv hx=>⟨hr _ _ (h4 i v x hv hx).1,(h4 i v x hv hx).2⟩⟩)
    refine ⟨_,k1,k2,k3,rfl,other 0,?_⟩
    have:Rep w (g.add H.length b 0 0) (H++[.cells c]) (.pointer (some ⟨(g.add H.length b 0 0).blk H.length,0,none⟩)) (.ptr H.length 0):=.ptr (c:=c) (by simp)
    rwa [Gh.add_eq.1] at this
  | arr es fz ver rows =>
    cases fz with
    | some f=>exact hh.elim
    | none =>
      cases ver with
      | succ k=>exact hh.elim
      | zero =>
        obtain ⟨cap,vs,e,rfl,h2,h3,h4,h5,h6⟩:=hh
        obtain ⟨k1,k2,k3⟩:=evo_adopt (cap:=cap) (o:=.arr es none 0 rows) he hs h.ge h.own h.free (fun _ _ _ _ h=>by cases h)
          (fun _=>⟨by rw [Gh.add_eq.2.2]; exact h3,h4,⟨vs,e,by rw [Gh.add_eq.1]; exact h2,by rw [Gh.add_eq.2.1,Gh.add_eq.2.2]; omega⟩,fun i j row x hi hj=>by
            obtain ⟨c,q1,q2⟩:=h6 i j row x hi hj
            exact ⟨c,by rw [Gh.add_eq.1,Gh.add_eq.2.1,cellAt_cells h2,Nat.zero_add]; exact q1,q2⟩,fun i j h=>by cases h⟩)
        refine ⟨_,k1,k2,k3,rfl,other cap,?_⟩
        have:=ar_whole (l:=H.length) (es:=es) (ver:=0) (fz:=none) (rows:=rows) k2 (by simp)
        rwa [Gh.add_eq.1,Gh.add_eq.2.1,Gh.add_eq.2.2] at this
  | map es=>exact hh.elim
  | loop=>exact hh.elim
end Go.Proofs.YtepbfecmageleaaGreatDoor
namespace Go.Proofs.YtepbfecmageleaaGreatDoor
open Go
variable [Sub]
section
variable {P:Program} {kn:TypeId→Bool} {w w':World} {g:Gh} {H:List Obj} {a:Act} {e:Fr} {own:List Nat}
def freshV (n:Nat):Obj→AV
  | .cells _=>.ptr n 0
  | .arr _ _ _ rows=>.ar n 0 0 rows.length
  | .map _=>.map n
  | .loop ..=>.yld n
def FreshSim (P:Program) (a:Act) (w:World) (g:Gh) (H:List Obj) (o:Oper) (ob:Obj):Prop :=
  ∃ cv w',(execOp a.eval o).run P w = .ok (.value cv) w'∧Evo w g H w' g H∧StRel w' g H∧Pend w.heap.size w' g H w.heap.size cv ob
theorem pend_cells {o:Oper} {vs:Array Value} {t:TypeId} {cs:List AV} (hs:StRel w g H) (hr:(execOp a.eval o).run P w = .ok (.value (.pointer (some ⟨w.heap.size,0,none⟩))) w')
    (hp:Pushed w w' (.cells vs t (0,0))) (hsz:vs.size = cs.length) (hcs:∀ (i:Nat) (c:Value) (x:AV),vs[i]? = some c→cs[i]? = some x→Rep w g H c x∧c.oneCell' = true) :
    FreshSim P a w g H o (.cells cs):=by
  obtain ⟨e1,s1⟩:=evo_push hp hs
  refine ⟨_,w',hr,e1,s1,Nat.le_refl _,by rw [hp.size]; omega,fun ⟨l,hl,hb⟩=>?_,fun i hd=>?_,rfl,vs,t,hp.new,hsz,fun i v x hv hx=>⟨e1.rep _ _ (hcs i v x hv hx).1,(hcs i v x hv hx).2⟩⟩
  · have:=IsBlk.lt hs hl; omega
  · have:=hs.dom _ i hd; omega
theorem pend_arr {o:Oper} {vs:Array Value} {t:TypeId} {es cap:Nat} {rows:List (List PV)} (hs:StRel w g H) (hr:(execOp a.eval o).run P w = .ok (.value (.slice (some ⟨w.heap.size,0,none⟩) rows.length cap)) w')
    (hp:Pushed w w' (.cells vs t (0,0))) (hcap:rows.length ≤ cap) (hes:∀ r ∈ rows,r.length = es) (hsz:cap * es ≤ vs.size)
    (hcs:∀ (i j:Nat) (row:List PV) (x:PV),rows[i]? = some row→row[j]? = some x→∃ c,vs[i * es + j]? = some c∧RepP w g.D c x) :
    FreshSim P a w g H o (.arr es none 0 rows):=by
  obtain ⟨e1,s1⟩:=evo_push hp hs
  refine ⟨_,w',hr,e1,s1,Nat.le_refl _,by rw [hp.size]; omega,fun ⟨l,hl,hb⟩=>?_,fun i hd=>?_,cap,vs,t,rfl,hp.new,hcap,hes,hsz,fun i j row x hi hj=>?_⟩
  · have:=IsBlk.lt hs hl; omega
  · have:=hs.dom _ i hd; omega
  · obtain ⟨c,h1,h2⟩:=hcs i j row x hi hj
    exact ⟨c,h1,h2.mono e1.D e1.cells⟩
theorem pend_mkslice {kn:TypeId→Bool} {t e:TypeId} {ti:TypeInfo} {x y:Operand} {zero:List PV} {j k:IntKind} {n m:Int} {dst:Option Tmp} {ty:TypeId} {pos:String} {after:Array Edge} {gd:Option (Nat×Bool)} (hs:StRel w g H) (ht:P.underlying t = some (.slice e)) (hi:P.info? e = some ti)
    (hz:zeroP P kn e = some zero) (hl:zero.length = ti.size) (hx:Rep w g H (a.eval x) (.p (.v (.int j n)))) (hy:Rep w g H (a.eval y) (.p (.v (.int k m)))) (hc:0 ≤ n∧n ≤ m∧ti.bytes * m ≤ 281474976710656∧m ≤ 9223372036854775807) :
    FreshSim P a w g H ⟨dst,.makeSlice t x y,ty,pos,after,gd⟩ (.arr zero.length none 0 (List.replicate n.toNat zero)):=by
  obtain ⟨c1,c2,c3,c4⟩:=hc
  obtain ⟨i,z,hi',hz',hzl,hzr⟩:=zeroP_rep (w:=w) hz
  rw [hi] at hi'
  cases hi'
  have hr:=run_make (P:=P) w t e ti z ht hi hz' j k n m c1 c2 c3 c4
  have hlen:(List.replicate n.toNat zero).length = n.toNat:=by simp
  refine pend_arr (P:=P) (a:=a) (o:=⟨dst,.makeSlice t x y,ty,pos,after,gd⟩) (rows:=List.replicate n.toNat zero) (es:=zero.length) (cap:=m.toNat) (w':=w.alloc (.cells (madeCells z.cells (m.toNat * ti.size)) e)) hs
    (by rw [hlen]; simp [execOp,hx.val.1,hy.val.1,hr]) ⟨rfl,rfl,rfl,⟨rfl,by first | exact Nat.le_refl _ | exact Nat.le_succ _⟩⟩ (by rw [hlen]; omega) (fun r hr=>by simp at hr; rw [hr.2]) (by rw [size_madeCells,hl]; exact Nat.le_refl _) (fun i j row x hrow hx'=>?_)
  rw [List.getElem?_replicate] at hrow
  split at hrow
  · rename_i hin
    cases hrow
    have hj:j < zero.length:=(List.getElem?_eq_some_iff.1 hx').1
    have hjz:j < z.cells.size:=by omega
    refine ⟨z.cells[j],?_,hzr g.D j z.cells[j] x (by simp) hx'⟩
    rw [hl,madeCells_get (by omega) (by omega) (by omega)]
    simp
  · cases hrow
def NoFresh (x:Option SOp):Prop:=∀ s,x = some s→isFresh s = false
theorem NoFresh.none:NoFresh none:=fun _ h=>by cases h
theorem NoFresh.bind {α:Type} {x:Option α} {g:α→Option SOp} (h:∀ a,NoFresh (g a)):NoFresh (x.bind g):=fun s e=>by
  obtain ⟨a,_,h2⟩:=Option.bind_eq_some_iff.1 e
  exact h a s h2
theorem NoFresh.map {α:Type} {x:Option α} {g:α→SOp} (h:∀ a,isFresh (g a) = false):NoFresh (x.map g):=fun s e=>by
  obtain ⟨a,_,rfl⟩:=Option.map_eq_some_iff.1 e
  exact h a
theorem NoFresh.some {s:SOp} (h:isFresh s = false):NoFresh (some s):=fun s' e=>by cases e; exact h
theorem fresh_sim {o:Oper} {sop:SOp} {v:AV} {H0 H1:List Obj} (hf:isFresh sop = true) (hr:evOp e H0 sop = some (v,H1)) (hc:compOp P kn own o = some sop) :
    ∃ ob,(∀ H2,evOp e H2 sop = some (freshV H2.length ob,H2++[ob]))∧∀ w g H,EnvRel w g H a.tmps e→StRel w g H→FreshSim P a w g H o ob:=by
  obtain ⟨dst,op,ty,pos,after,gd⟩:=o
  cases op
  case alloc t =>
    simp only [compOp,Option.map_eq_some_iff] at hc
    obtain ⟨z,hz,rfl⟩:=hc
    refine ⟨.cells z,fun H2=>rfl,fun w g H he hs=>?_⟩
    obtain ⟨i,z',hi,hz',hl,hr⟩:=zeroT_rep (w:=w) (g:=g) (H:=H) hz
    exact pend_cells (w':={ w with heap:=w.heap.push (.cells z'.cells t) }) (vs:=z'.cells) (t:=t) hs (by simp [execOp,Instr.alloc,zeroValue,typeInfo,hi,hz',newVar,newRow]) ⟨rfl,rfl,rfl,⟨rfl,by first | exact Nat.le_refl _ | exact Nat.le_succ _⟩⟩ hl hr
  case box t x =>
    simp only [compOp,Option.map_eq_some_iff] at hc
    obtain ⟨sa,hsa,rfl⟩:=hc
    simp only [evOp,Option.map_eq_some_iff,Option.bind_eq_some_iff,Prod.mk.injEq] at hr
    obtain ⟨u,hu,cs,hcs,rfl,rfl⟩:=hr
    refine ⟨.cells cs,fun H2=>by simp [evOp,hu,hcs,freshV],fun w g H he hs=>?_⟩
    obtain ⟨h1,h2⟩:=cellsOf_rep (arg_rep he hsa hu) hcs
    exact pend_cells (w':={ w with heap:=w.heap.push (.cells (a.eval x).cells t) }) (vs:=(a.eval x).cells) (t:=t) hs (by simp [execOp,Instr.box,newVar,newRow]) ⟨rfl,rfl,rfl,⟨rfl,by first | exact Nat.le_refl _ | exact Nat.le_succ _⟩⟩ h1 h2
  case makeSlice t x y =>
    simp only [compOp,under,Option.bind_eq_some_iff] at hc
    obtain ⟨d,hd,hc⟩:=hc
    cases d with
    | slice el =>
      simp only [Option.bind_eq_some_iff] at hc
      obtain ⟨bs,hbs,sz,hsz,z,hz,hc⟩:=hc
      split at hc
      · cases hc
      · rename_i hzl
        simp only [Option.map_eq_some_iff,Option.bind_eq_some_iff] at hc
        obtain ⟨sn,hsn,sm,hsm,rfl⟩:=hc
        simp only [evOp,Option.bind_eq_some_iff] at hr
        obtain ⟨n,hn,m,hm,hr⟩:=hr
        unfold mkSlice at hr
        split at hr
        · rename_i hcond
          cases hr
          simp only [bytesT,Option.map_eq_some_iff] at hbs
          obtain ⟨ti,hti,rfl⟩:=hbs
          obtain ⟨ti',hti',rfl⟩:=size_some hsz
          rw [hti] at hti'
          cases hti'
          refine ⟨.arr z.length none 0 (List.replicate n.toNat z),fun H2=>by simp [evOp,hn,hm,mkSlice,hcond,freshV],fun w g H he hs=>?_⟩
          obtain ⟨j,hj⟩:=int_rep he hsn hn
          obtain ⟨k,hk⟩:=int_rep he hsm hm
          exact pend_mkslice hs hd hti hz (by omega) hj hk hcond
        · cases hr
    | _=>simp at hc
  all_goals
    exfalso
    have:isFresh sop = false:=by
      clear hf hr
      simp only [compOp] at hc
      revert hc
      refine (?_:NoFresh _) sop
      repeat' first
        | exact NoFresh.none
        | contradiction
        | (refine NoFresh.bind fun _=>?_)
        | (refine NoFresh.map fun _=>?_; first | rfl | (split <;> rfl))
        | (refine NoFresh.some ?_; rfl)
        | split
    rw [this] at hf; cases hf
end
end Go.Proofs.YtepbfecmageleaaGreatDoor
namespace Go.Proofs.YtepbfecmageleaaGreatDoor
open Go
variable [Sub]
structure Reg (P:Program) (kn:TypeId→Bool) (nt:Nat) (vars:List Nat) (ops:Array Oper) (sos:List SO) (ds:List DO) (e0:Fr) (H0:List Obj) (r:Tr):Prop where
  comp:compOps P kn nt vars ops ops.toList [] = some sos
  ok:DrawOk ops.toList sos ds
  rc:RecOk P kn ds e0 H0 r
  st:stables ds r.recs (r.stores++[r.s.H])
def setl (ds:List DO) (L:Nat→Bool) (j:Nat):Bool:=L j && (!isF ds j || (List.range j).all fun k=>!isW ds k || L k)
structure EnvB (w:World) (g:Gh) (H:List Obj) (tmps:Array Value) (e:Fr) (hid:Nat→Prop):Prop where
  loc:∀ t v,lk e.loc t = some v→¬ hid t→Rep w g H (tmps.getD t undef) v
  env:∀ t v,lk e.env t = some v→¬ hid t→Rep w g H (tmps.getD t undef) v
def Hid (ds:List DO) (L S:Nat→Bool) (n:Nat):Prop:=∃ j,L j = true∧S j = false∧n ∈ (dstOf ds j).key
def Wait (n0:Nat) (ds:List DO) (r:Tr) (w:World) (g:Gh) (H:List Obj) (tmps:Array Value) (b j:Nat):Prop :=
  ∃ cv ob Hj,Pend n0 w g H b cv ob∧(r.stores++[r.s.H])[cnt ds j]? = some Hj∧(r.stores++[r.s.H])[cnt ds j + 1]? = some (Hj++[ob])∧valOf r.recs j = freshV Hj.length ob∧∀ n ∈ (dstOf ds j).key,tmps.getD n undef = cv
structure InvS (w0:World) (g0:Gh) (H0:List Obj) (a0:Act) (vars:List Nat) (ops:Array Oper) (ds:List DO) (e0:Fr) (r:Tr) (L S:Nat→Bool) (a:Act) (w:World):Prop where
  lt:∀ j,L j = true→j < ds.length
  shutL:Shut' ops.toList L
  sub:∀ j,S j = true→L j = true
  fr:∀ j,L j = true→S j = false→isF ds j = true
  shut:Shut' ops.toList S
  down:∀ j k,S j = true→isW ds j = true→k < j→isW ds k = true→S k = true
  st:∃ (g:Gh) (H:List Obj) (bf:Nat→Nat),(r.stores++[r.s.H])[mOf ds S ds.length]? = some H∧Evo w0 g0 H0 w g H∧StRel w g H∧EnvB w g H a.tmps (envL e0 (dstOf ds) (valOf r.recs) S ds.length) (Hid ds L S) ∧
    FrOk vars (envL e0 (dstOf ds) (valOf r.recs) S ds.length)∧(∀ j,L j = true→S j = false→Wait w0.heap.size ds r w g H a.tmps (bf j) j) ∧
    ∀ j k,L j = true→S j = false→L k = true→S k = false→j ≠ k→bf j ≠ bf k
  defers:a.defers = a0.defers
  size:a.tmps.size = a0.tmps.size
abbrev Inv (w0:World) (g0:Gh) (H0:List Obj) (a0:Act) (vars:List Nat) (ops:Array Oper) (ds:List DO) (e0:Fr) (r:Tr) (L:Nat→Bool) (a:Act) (w:World):Prop:=InvS w0 g0 H0 a0 vars ops ds e0 r L (setl ds L) a w
theorem isF_isW {ds:List DO} {j:Nat} (h:isF ds j = true):isW ds j = true:=by
  unfold isF at h
  unfold isW
  split at h
  · simp only [beq_iff_eq] at h; simp only [h]; rfl
  · cases h
section
variable {ds:List DO} {L:Nat→Bool} {ops:List Oper} {sos:List SO}
theorem setl_sub {j:Nat} (h:setl ds L j = true):L j = true:=by
  simp only [setl,Bool.and_eq_true] at h; exact h.1
theorem setl_of {j:Nat} (h:L j = true) (hf:isF ds j = true→∀ k,k < j→isW ds k = true→L k = true):setl ds L j = true:=by
  simp only [setl,h,Bool.true_and,Bool.or_eq_true,Bool.not_eq_true',List.all_eq_true,List.mem_range]
  cases hj:isF ds j with
  | false=>exact .inl rfl
  | true =>
    refine .inr fun k hk=>?_
    cases hw:isW ds k with
    | false=>exact .inl rfl
    | true=>exact .inr (hf hj k hk hw)
theorem setl_below {j:Nat} (h:setl ds L j = true) (hf:isF ds j = true) {k:Nat} (hk:k < j) (hw:isW ds k = true):L k = true:=by
  simp only [setl,hf,Bool.not_true,Bool.false_or,Bool.and_eq_true,List.all_eq_true,List.mem_range] at h
  have:=h.2 k hk
  simpa [hw] using this
theorem setl_allL (ok:DrawOk ops sos ds) (hs:Shut' ops L) {j k:Nat} (h:setl ds L j = true) (hw:isW ds j = true) (hk:k < j) (hwk:isW ds k = true):L k = true:=by
  cases hf:isF ds j with
  | true=>exact setl_below h hf hk hwk
  | false=>exact hs.need (ok.ws j k hw hf hwk hk) (setl_sub h)
theorem setl_down (ok:DrawOk ops sos ds) (hs:Shut' ops L) {j k:Nat} (h:setl ds L j = true) (hw:isW ds j = true) (hk:k < j) (hwk:isW ds k = true):setl ds L k = true :=
  setl_of (setl_allL ok hs h hw hk hwk) fun _ m hm hwm=>setl_allL ok hs h hw (by omega) hwm
theorem setl_ready (ok:DrawOk ops sos ds) (hs:Shut' ops L) {i:Nat} (hr:∀ o e,ops[i]? = some o→e ∈ o.after.toList→Region.binds .any e = true→L e.on = true) :
    ∀ o e,ops[i]? = some o→e ∈ o.after.toList→Region.binds .any e = true→setl ds L e.on = true:=fun o e ho he hb =>
  setl_of (hr o e ho he hb) fun hf k hk hwk=>ready_need hs hr (ok.below i o e k ho he hb hf hwk hk)
theorem setl_mono {L':Nat→Bool} (h:∀ j,L j = true→L' j = true) {j:Nat} (hj:setl ds L j = true):setl ds L' j = true :=
  setl_of (h j (setl_sub hj)) fun hf k hk hw=>h k (setl_below hj hf hk hw)
end
section
variable {P:Program} {kn:TypeId→Bool} {nt:Nat} {vars:List Nat} {ops:Array Oper} {sos:List SO} {ds:List DO} {e0:Fr} {H0:List Obj} {r:Tr} {w0:World} {g0:Gh} {a0:Act}
variable {L:Nat→Bool} {a:Act} {w:World} {i:Nat}
theorem Reg.agree (R:Reg P kn nt vars ops sos ds e0 H0 r) (hs:Shut' ops.toList L) (hi:i < ds.length) (hL:L i = false) (hr:∀ o e,ops.toList[i]? = some o→e ∈ o.after.toList→Region.binds .any e = true→L e.on = true)
    {so:SO} (hso:sos[i]? = some so) {x:SA} (hx:∀ n ∈ x.key,n ∈ soKeys so):ev (envL e0 (dstOf ds) (valOf r.recs) L ds.length) x = ev (envs e0 ds r.recs i) x:=by
  rw [envs_envL R.rc.len (by omega),← envL_below (i:=i) (k:=ds.length) (by omega)]
  refine envL_look (fun j hj hh=>?_)
  obtain ⟨n,n1,n2⟩:=hits_key hh
  by_cases hji:j = i
  · subst hji; simp [hL]
  · have hdj:ds[j]? = some ds[j]:=by simp [hj]
    have hsj:=R.ok.op j _ hdj
    have n1':n ∈ ds[j].o.dst.key:=by simpa [dstOf,hdj] using n1
    rcases R.ok.keys i j so _ hso hsj hji n n1' (hx n n2) with h | h
    · have h1:=ready_need hs hr h
      have h2:=need_lt R.ok.down h
      simp [h1,h2]
    · have h2:=need_lt R.ok.down h
      constructor
      · intro hl
        have:=hs.need h hl
        rw [hL] at this
        cases this
      · intro h3; omega
theorem Reg.frame (R:Reg P kn nt vars ops sos ds e0 H0 r) (hs:Shut' ops.toList L) (hi:i < ds.length) (hL:L i = false) (x:SA) :
    ev (envL e0 (dstOf ds) (valOf r.recs) (fun j=>j == i || L j) ds.length) x = ev (dstPut (dstOf ds i) (envL e0 (dstOf ds) (valOf r.recs) L ds.length) (valOf r.recs i)) x:=by
  rw [ev_put,envL_add hL (fun j h1 h2 hl hh=>?_)]
  · by_cases hc:hits (dstOf ds i) x = true
    · rw [if_pos ⟨hi,hc⟩,if_pos hc]
    · rw [if_neg (fun h=>hc h.2),if_neg hc]
  · obtain ⟨n,n1,n2⟩:=hits_key hh.1
    obtain ⟨n',m1,m2⟩:=hits_key hh.2
    have hn:n' = n:=by
      cases x <;> simp [SA.key] at n2 m2
      all_goals rw [n2,m2]
    subst hn
    have hdj:ds[j]? = some ds[j]:=by simp [h2]
    have hdi:ds[i]? = some ds[i]:=by simp [hi]
    have n1':n' ∈ ds[j].o.dst.key:=by simpa [dstOf,hdj] using n1
    have m1':n' ∈ ds[i].o.dst.key:=by simpa [dstOf,hdi] using m1
    rcases R.ok.keys j i _ _ (R.ok.op j _ hdj) (R.ok.op i _ hdi) (by omega) n' m1' (by simp [soKeys,n1']) with h | h
    · have:=hs.need h hl
      rw [hL] at this
      cases this
    · have:=need_lt R.ok.down h
      omega
theorem Reg.count (hi:i < ds.length) (hL:L i = false) (hall:∀ j,j < i→isW ds j = true→L j = true) (hdown:∀ j,i < j→isW ds j = true→L j = false):mOf ds L ds.length = cnt ds i:=by
  rw [cnt_mOf (by omega),← mOf_below (i:=i) (k:=ds.length) (by omega)]
  refine mOf_congr fun j hj hjw=>?_
  by_cases hji:j = i
  · subst hji; simp [hL]
  · by_cases hlt:j < i
    · rw [hall j hlt hjw]; simp [hlt]
    · rw [hdown j (by omega) hjw]; simp; omega
theorem Reg.window (R:Reg P kn nt vars ops sos ds e0 H0 r) (hs:Shut' ops.toList L) (hL:L i = false) (hr:∀ o e,ops.toList[i]? = some o→e ∈ o.after.toList→Region.binds .any e = true→L e.on = true)
    {d:DO} (hd:ds[i]? = some d) (hk:d.k = .here∨d.k = .read):d.lo ≤ mOf ds L ds.length∧mOf ds L ds.length ≤ d.hi:=by
  obtain ⟨_,h1,h2,_⟩:=R.ok.read i d hd hk
  refine ⟨Nat.le_trans h1 ?_,Nat.le_trans ?_ h2⟩
  · rw [← mOf_filter (ds:=ds) (L:=fun j=>waits (befs ops.toList []) i j)]
    exact mOf_le fun j _ _ hj=>ready_need hs hr (waits_need hj)
  · rw [← mOf_filter (ds:=ds) (L:=fun j=>!(waits (befs ops.toList []) j i))]
    refine mOf_le fun j _ _ hj=>?_
    cases hwt:waits (befs ops.toList []) j i with
    | false=>rfl
    | true =>
      have:=hs.need (waits_need hwt) hj
      rw [hL] at this
      cases this
end
end Go.Proofs.YtepbfecmageleaaGreatDoor
