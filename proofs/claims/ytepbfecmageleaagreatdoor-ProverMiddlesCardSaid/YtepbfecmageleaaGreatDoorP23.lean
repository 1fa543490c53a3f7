/- Part of the proof of Rows.ProverMiddlesCardSaid: PmF2, PmF3, PmF4, PmF5, PmF6, PmF7, PmS2, PmO1. -/
import Derived.LoopNIn
import Derived.Test.YtepbfecmageleaaGreatDoorChecked
import Derived.Sort.Statements
import Derived.Test.YtepbfecmageleaaGreatDoorP21
import Derived.Test.YtepbfecmageleaaGreatDoorP22
set_option linter.all false
namespace Go.Proofs.YtepbfecmageleaaGreatDoor
open Go
theorem wpIn_loopN {F:Fence} {n0:Nat} {P:Program} {Q:Exit→Act→World→Prop} {c:Code} (J:Nat→Act→World→Prop) (round:∀ n a w,J n a w→c.wpIn F n0 P (Exit.then (fun a' w'=>∃ n',n' < n∧J n' a' w') Q) a w)
    {n:Nat} {a:Act} {w:World} (h:J n a w):(Code.loop c).wpIn F n0 P Q a w:=by
  have key:∀ m n a w,n ≤ m→J n a w→Code.roundsIn F n0 P c Q (m + 1) a w:=by
    intro m
    induction m with
    | zero =>
      intro n a w hn hj
      refine wpIn_mono (round n a w hj) fun e a' w' hq=>?_
      cases e <;> first | exact hq | (obtain ⟨n',h1,_⟩:=hq; omega)
    | succ m ih =>
      intro n a w hn hj
      refine wpIn_mono (round n a w hj) fun e a' w' hq=>?_
      cases e <;> first | exact hq | (obtain ⟨n',h1,h2⟩:=hq; exact ih n' a' w' (by omega) h2)
  exact wpIn_loop_rounds (n + 1) (key n n a w (Nat.le_refl _) h)
variable [Sub]
theorem kv_rep {w:World} {g:Gh} {H:List Obj} (x:List Nat):Rep w g H (Value.agg (x.map fun (n:Nat)=>Value.int .u8 n).toArray) (.agg (exC x)):=by
  refine .agg (by simp [exC]) (fun i c hc=>?_) (fun i c y hc hy=>?_)
  · simp at hc
    obtain ⟨n,_,rfl⟩:=hc
    rfl
  · simp [exC] at hc hy
    obtain ⟨n,h1,rfl⟩:=hc
    obtain ⟨n',h2,rfl⟩:=hy
    rw [h1] at h2
    cases h2
    exact .p (.v rfl)
def EntsR (w:World) (g:Gh) (ents:Array MapEntry) (es:List E):Prop :=
  ents.size = es.length∧∀ (i:Nat) (me:MapEntry) (e:E),ents[i]? = some me→es[i]? = some e→me.key = e.kv∧Rep w g [] me.val e.av
section
variable {w w':World} {g g':Gh} {ents:Array MapEntry} {es:List E}
theorem EntsR.same (h:EntsR w g ents es) (hD:∀ b i,g.D b i→g'.D b i) (hc:∀ b i,g.D b i→cellAt w' b i = cellAt w b i):EntsR w' g' ents es :=
  ⟨h.1,fun i me e h1 h2=>⟨(h.2 i me e h1 h2).1,(h.2 i me e h1 h2).2.step hD hc (fun l o hl=>by simp at hl)⟩⟩
theorem EntsR.evo {H H':List Obj} (h:EntsR w g ents es) (hv:Evo w g H w' g' H'):EntsR w' g' ents es:=h.same hv.D hv.cells
theorem EntsR.get (h:EntsR w g ents es) {me:MapEntry} (hm:me ∈ ents.toList):∃ (i:Nat) (e:E),ents[i]? = some me∧es[i]? = some e∧me.key = e.kv∧Rep w g [] me.val e.av:=by
  obtain ⟨i,hi,rfl⟩:=List.getElem_of_mem hm
  have hi':i < ents.size:=by simpa using hi
  have h2:i < es.length:=by rw [← h.1]; exact hi'
  have h1:ents[i]? = some ents.toList[i]:=by simp [hi']
  exact ⟨i,es[i],h1,by simp [h2],h.2 i _ _ h1 (by simp [h2])⟩
theorem EntsR.erase {j:Nat} (h:EntsR w g ents es) (hj:j < es.length):EntsR w g (ents.eraseIdxIfInBounds j) (es.eraseIdx j):=by
  have hj':j < ents.size:=by rw [h.1]; exact hj
  have he:ents.eraseIdxIfInBounds j = ents.eraseIdx j hj':=by simp [Array.eraseIdxIfInBounds,hj']
  rw [he]
  refine ⟨by simp [List.length_eraseIdx,h.1,hj],fun i me e h1 h2=>?_⟩
  rw [Array.getElem?_eraseIdx] at h1
  rw [List.getElem?_eraseIdx] at h2
  split at h1
  · rename_i hlt; rw [if_pos hlt] at h2; exact h.2 _ _ _ h1 h2
  · rename_i hlt; rw [if_neg hlt] at h2; exact h.2 _ _ _ h1 h2
end
theorem same_u8:∀ (n:Nat) (x y:List Nat),x.length = n→y.length = n→sameCells (List.replicate n LK.int) (x.map fun (n:Nat)=>Value.int .u8 n) (y.map fun (n:Nat)=>Value.int .u8 n) = some (decide (x = y))
  | 0,x,y,hx,hy=>by
    cases List.eq_nil_of_length_eq_zero hx; cases List.eq_nil_of_length_eq_zero hy
    simp [sameCells]
  | n + 1,[],y,hx,hy=>by simp at hx
  | n + 1,a::x,[],hx,hy=>by simp at hy
  | n + 1,a::x,b::y,hx,hy=>by
    simp only [List.replicate_succ,List.map_cons,sameCells,if_true]
    by_cases h:a = b
    · subst h
      simp [same_u8 n x y (by simpa using hx) (by simpa using hy)]
    · have:((a:Int) == (b:Int)) = false:=by simp; omega
      simp [this,h]
def ks128:List LK:=List.replicate 32 LK.int
theorem same_kv {e f:E} (he:e.Ok) (hf:f.Ok):sameKey true ks128 (keyCells e.kv) f.kv = some (decide (e.x = f.x)):=by
  have h1:keyCells e.kv = e.x.map fun (n:Nat)=>Value.int .u8 n:=by simp [E.kv,keyCells]
  have h2:keyCells f.kv = f.x.map fun (n:Nat)=>Value.int .u8 n:=by simp [E.kv,keyCells]
  have h3:isAggV f.kv = true:=rfl
  rw [sameKey,if_pos h3,h1,h2]
  exact same_u8 32 _ _ he.len hf.len
theorem und126:TP.underlying 126 = some (.map 128 26):=by kernel_rfl
theorem und128:TP.underlying 128 = some (.array 32 3)∨∃ d,TP.underlying 128 = some d∧aggT d = true:=by
  right
  have h:((TP.underlying 128).map aggT) = some true:=by kernel_rfl
  cases hu:TP.underlying 128 with
  | none=>rw [hu] at h; cases h
  | some d=>rw [hu] at h; exact ⟨d,rfl,by simpa using h⟩
theorem lv128:leaves TP 10 128 = some ks128:=by kernel_rfl
def Distinct (es:List E):Prop:=es.Pairwise fun e f=>e.x ≠ f.x
theorem run_delete {w:World} {g:Gh} {m ck:Nat} {ents:Array MapEntry} {es:List E} {e:E} {j:Nat} (hm:w.heap[m]? = some (.map ents ck)) (hr:EntsR w g ents es) (hok:∀ e ∈ es,E.Ok e) (hd:Distinct es) (hj:es[j]? = some e) :
    (Builtin.delete_ #[126,128] 0 #[.map (some m),e.kv]).run TP w = .ok (.tuple #[]) { w with heap:=w.heap.setIfInBounds m (.map (ents.eraseIdxIfInBounds j) ck) }:=by
  have hgo:(getObj m).run TP w = .ok (.map ents ck) w:=by simp [getObj,Sem.run,hm]
  have hso:∀ o,(setObj m o).run TP w = .ok () { w with heap:=w.heap.setIfInBounds m o }:=fun o=>by simp [setObj,Sem.run,hm]
  obtain ⟨d,hu,ha⟩:∃ d,TP.underlying 128 = some d∧aggT d = true:=by
    rcases und128 with h | h
    · exact ⟨_,h,rfl⟩
    · exact h
  have heok:e.Ok:=hok e (List.mem_of_getElem? hj)
  have hk:keyOk true ks128 e.kv = true:=by
    have:(keyCells e.kv).length = 32:=by simp [E.kv,keyCells,heok.len]
    simp [keyOk,this,ks128]
    rfl
  have hck:∀ em,(Instr.checkKey em 10000 128 e.kv).run TP w = .ok () w:=fun em=>chk_key lv128 hu (by rw [ha]; exact hk)
  have hke:keysEq ents.toList (es.map fun e=>(e.kv,e.av)):=by
    apply List.ext_getElem?
    intro i
    simp only [List.getElem?_map,Array.getElem?_toList,Option.map_map]
    by_cases hi:i < es.length
    · have hi':i < ents.size:=by rw [hr.1]; exact hi
      have:=(hr.2 i ents[i] es[i] (by simp [hi']) (by simp [hi])).1
      simp [hi,hi',this]
    · rw [Array.getElem?_eq_none (by rw [hr.1]; omega),List.getElem?_eq_none (by omega)]
      rfl
  have hlt:j < es.length:=(List.getElem?_eq_some_iff.1 hj).1
  have hfa:FirstAt true ks128 (keyCells e.kv) (es.map fun e=>(e.kv,e.av)) j (e.kv,e.av):=by
    refine ⟨by simp [hj],by rw [same_kv heok heok]; simp,fun i p hi hp=>?_⟩
    simp only [List.getElem?_map,Option.map_eq_some_iff] at hp
    obtain ⟨f,hf,rfl⟩:=hp
    rw [same_kv heok (hok f (List.mem_of_getElem? hf))]
    have hne:f.x ≠ e.x:=by
      have hil:i < es.length:=by omega
      have:=List.pairwise_iff_getElem.1 hd i j hil hlt hi
      rw [List.getElem?_eq_getElem hil] at hf
      rw [List.getElem?_eq_getElem hlt] at hj
      cases hf; cases hj
      exact this
    simp [Ne.symm hne]
  obtain ⟨me,_,hf⟩:=run_find_first (w:=w) hu lv128 ha hk hke hfa
  simp [Builtin.delete_,run_underlying und126,hgo,hck,hf,hso]
section
variable {P:Program} {m nt ck:Nat} {vars:List Nat} {w0 w:World} {g0 g:Gh} {ents:Array MapEntry} {a:Act} {s:St} {env:Env}
theorem BW.drop (h:BW m w0 g0 nt vars ents ck a w g s) (he:∀ t v,lk env t = some v→t ∈ vars∧Rep w g [] (a.tmps.getD t undef) v):BW m w0 g0 nt vars ents ck a w g ⟨env,[]⟩:=by
  refine ⟨⟨h.far.D,h.far.cells,h.far.keep,fun b i ho=>absurd ho (no_own b i),h.far.newD,h.far.cd,st_empty h.far.st⟩,h.size,?_,h.mp,fun i=>no_own m i,h.noDm,h.mlt,h.bo,⟨fun t v ht=>(by cases ht),fun t v ht=>(he t v ht).2⟩,⟨fun t v ht=>(by cases ht),fun t v ht=>(he t v ht).1⟩⟩
  obtain ⟨bs,h1,h2,h3⟩:=h.dfr
  exact ⟨bs,h1,h2,fun c hc=>⟨(h3 c hc).1,(h3 c hc).2.1,fun i=>no_own c i⟩⟩
theorem IW.drop {b:Nat} {seen:Array Nat} {H:List Obj} (h:IW m w0 b ck seen w g H):IW m w0 b ck seen w g []:=⟨h.iter,fun i=>no_own b i,h.noDb,h.bge⟩
end
end Go.Proofs.YtepbfecmageleaaGreatDoor
namespace Go.Proofs.YtepbfecmageleaaGreatDoor
set_option maxRecDepth 100000
open Go
def zero32:List AV:=exC (List.replicate 32 0)
def sosE (k1 v1 x1 x2:Nat):List SO:=[ox x1 (.alloc zero32),ox x2 (.alloc [.p (.v bF),.lit []]),o0 (.store 32 (.x x1) (.t k1)),o0 (.store 2 (.x x2) (.t v1))]
def os3:List Oper:=match r3 with | .region _ ops _=>ops.toList.drop 3 | _=>[]
def os11:List Oper:=match r11 with | .region _ ops _=>ops.toList.drop 3 | _=>[]
theorem cp3:compOps TP knT 43 vs69 (match r3 with | .region _ ops _=>ops | _=>#[]) os3 [15,14] = some (sosE 14 15 4 5):=by kernel_rfl
theorem cp11:compOps TP knT 43 vs69 (match r11 with | .region _ ops _=>ops | _=>#[]) os11 [31,30] = some (sosE 30 31 7 8):=by kernel_rfl
theorem splice_all {α:Type}:∀ {c x:List α},c.length = x.length→splice c 0 x = some x
  | [],[],_=>rfl
  | [],_::_,h=>by simp at h
  | _::_,[],h=>by simp at h
  | _::c,b::x,h=>by
    rw [splice,splice_all (by simpa using h)]
    rfl
theorem ops_of {sos:List SO} {e:Fr} {H:List Obj} {r:St} (h:WO X0 Gam sos e H fun e' H'=>(⟨e'.env,H'⟩:St) = r):evOps X0 Gam sos e H = some r:=by
  rw [← WO_evOps (K:=fun s=>s = r)] at h
  cases hc:evOps X0 Gam sos e H with
  | none=>rw [hc] at h; exact h.elim
  | some r=>rw [hc] at h; exact congrArg some h
theorem exec_of {c:SCode} {s:St} {x:SExit} {r:St} (h:W X0 Gam c s fun x' s'=>x' = x∧s' = r):exec X0 Gam c s = some (x,r):=by
  unfold W at h
  cases hc:exec X0 Gam c s with
  | none=>rw [hc] at h; exact h.elim
  | some q=>rw [hc] at h; obtain ⟨h1,h2⟩:=h; rw [← h1,← h2]
section
variable {e:E} {env:Env}
theorem len_exC {x:List Nat}:(exC x).length = x.length:=by simp [exC]
theorem rest3 (he:e.Ok):evOps X0 Gam (sosE 14 15 4 5) ⟨[(15,e.av),(14,.agg (exC e.x))],env⟩ [] = some ⟨upd (upd env 4 (.ptr 0 0)) 5 (.ptr 1 0),[.cells (exC e.x),.cells [.p (.v (.bool e.b)),.p e.m]]⟩:=by
  have hl:(exC e.x).length = 32:=by rw [len_exC,he.len]
  have hs:splice zero32 0 (exC e.x) = some (exC e.x):=splice_all (by simp [zero32,exC,he.len])
  refine ops_of ?_
  simp [sosE,EV,evOp,E.av,hl,hs,splice]
def env1 (m b:Nat):Env:=[(0,.p (.v (.map (some m)))),(10,.p (.v (.pointer (some ⟨b,0,none⟩))))]
theorem isZ (he:e.Ok):lenOf (.p e.m) = some (match e.m with | .sl r=>r.length | _=>0):=by
  rcases he.mag with h | ⟨rows,h,_⟩ <;> rw [h] <;> rfl
theorem zLen (he:e.Ok):decide (((match e.m with | .sl r=>r.length | _=>0:Nat):Int) = 0) = e.z:=by
  rcases he.mag with h | ⟨rows,h,_⟩
  · rw [h]; simp [E.z,h]
  · rw [h]; cases rows <;> simp [E.z,h]; omega
theorem walk4 (he:e.Ok) {m b:Nat}:exec X0 Gam s4 ⟨upd (upd (env1 m b) 4 (.ptr 0 0)) 5 (.ptr 1 0),[.cells (exC e.x),.cells [.p (.v (.bool e.b)),.p e.m]]⟩ =
    some (.normal,⟨upd (upd (upd (env1 m b) 4 (.ptr 0 0)) 5 (.ptr 1 0)) 19 (.p (.v (.bool e.z))),[.cells (exC e.x),.cells [.p (.v (.bool e.b)),.p e.m]]⟩):=by
  refine exec_of ?_
  simp [s4,EV,evOp,env1,isZ he,← zLen he]
end
end Go.Proofs.YtepbfecmageleaaGreatDoor
namespace Go.Proofs.YtepbfecmageleaaGreatDoor
set_option maxRecDepth 100000
open Go
variable [Sub]
def unseen (seen:Array Nat) (ents:Array MapEntry):Nat:=(ents.toList.filter fun me=>!seen.contains me.born).length
theorem filter_len_lt {α:Type} {p q:α→Bool}:∀ {l:List α} (_:∀ x ∈ l,q x = true→p x = true) {y:α},y ∈ l→p y = true→q y = false→(l.filter q).length < (l.filter p).length
  | [],_,y,hy,_,_=>by cases hy
  | x::l,h,y,hy,h1,h2=>by
    have hle:(l.filter q).length ≤ (l.filter p).length:=by
      have:∀ (l:List α),(∀ x ∈ l,q x = true→p x = true)→(l.filter q).length ≤ (l.filter p).length:=by
        intro l
        induction l with
        | nil=>intro _; simp
        | cons x l ih =>
          intro h
          have:=ih fun x hx=>h x (by simp [hx])
          have hx:=h x (by simp)
          simp only [List.filter_cons]
          cases hq:q x <;> cases hp:p x <;> simp_all <;> omega
      exact this l fun x hx=>h x (by simp [hx])
    rcases List.mem_cons.1 hy with rfl | hy
    · simp only [List.filter_cons,h1,h2,if_true,Bool.false_eq_true,if_false,List.length_cons]; omega
    · have:=filter_len_lt (fun x hx=>h x (by simp [hx])) hy h1 h2
      have hx:=h x (by simp)
      simp only [List.filter_cons]
      cases hq:q x <;> cases hp:p x <;> simp_all <;> omega
theorem unseen_lt {seen:Array Nat} {ents:Array MapEntry} {me:MapEntry} (h:me ∈ ents.toList) (hs:seen.contains me.born = false):unseen (seen.push me.born) ents < unseen seen ents:=by
  refine filter_len_lt (fun x _ hx=>?_) h (by rw [hs]; rfl) ?_
  · simp at hx ⊢; exact hx.1
  · simp
theorem unseen_erase {seen:Array Nat} {ents:Array MapEntry} {j:Nat}:unseen seen (ents.eraseIdxIfInBounds j) ≤ unseen seen ents:=by
  refine List.Sublist.length_le (List.Sublist.filter _ ?_)
  rw [Array.eraseIdxIfInBounds]
  split
  · rw [Array.toList_eraseIdx]; exact List.eraseIdx_sublist ..
  · exact List.Sublist.refl _
def J1 (m ck b:Nat) (w0:World) (g0:Gh) (es0:List E) (n:Nat) (a:Act) (w:World):Prop :=
  ∃ g ents seen es,BW m w0 g0 43 vs69 ents ck a w g ⟨env1 m b,[]⟩∧IW m w0 b ck seen w g []∧EntsR w g ents es∧(∀ e ∈ es,E.Ok e)∧Distinct es∧es.filter E.nz = es0.filter E.nz ∧
    (∀ (i:Nat) (me:MapEntry) (e:E),ents[i]? = some me→es[i]? = some e→seen.contains me.born = true→e.nz = true)∧n = unseen seen ents
def P1 (m ck:Nat) (w0:World) (g0:Gh) (es0:List E) (a:Act) (w:World):Prop :=
  ∃ g ents,BW m w0 g0 43 vs69 ents ck a w g ⟨[(0,.p (.v (.map (some m))))],[]⟩∧EntsR w g ents (es0.filter E.nz)
theorem born_inj {ents:Array MapEntry} {ck i j:Nat} {x y:MapEntry} (hb:BornOk ents ck) (h1:ents[i]? = some x) (h2:ents[j]? = some y) (h:x.born = y.born):i = j:=by
  have hi:i < ents.toList.length:=by simpa using (Array.getElem?_eq_some_iff.1 h1).1
  have hj:j < ents.toList.length:=by simpa using (Array.getElem?_eq_some_iff.1 h2).1
  have e1:ents.toList[i] = x:=by have:=(Array.getElem?_eq_some_iff.1 h1).2; simpa using this
  have e2:ents.toList[j] = y:=by have:=(Array.getElem?_eq_some_iff.1 h2).2; simpa using this
  have hp:=List.pairwise_iff_getElem.1 hb.1
  rcases Nat.lt_trichotomy i j with hlt | he | hlt
  · have:=hp i j hi hj hlt; rw [e1,e2] at this; omega
  · exact he
  · have:=hp j i hj hi hlt; rw [e1,e2] at this; omega
theorem bornOk_erase {ents:Array MapEntry} {ck j:Nat} (hb:BornOk ents ck):BornOk (ents.eraseIdxIfInBounds j) ck:=by
  have hs:(ents.eraseIdxIfInBounds j).toList.Sublist ents.toList:=by
    rw [Array.eraseIdxIfInBounds]
    split
    · rw [Array.toList_eraseIdx]; exact List.eraseIdx_sublist ..
    · exact List.Sublist.refl _
  exact ⟨hb.1.sublist hs,fun e he=>hb.2 e (hs.subset he)⟩
theorem filter_eraseIdx {α:Type} {p:α→Bool}:∀ {l:List α} {j:Nat} {x:α},l[j]? = some x→p x = false→(l.eraseIdx j).filter p = l.filter p
  | [],j,x,h,_=>by simp at h
  | y::l,0,x,h,hp=>by simp at h; subst h; simp [hp]
  | y::l,j + 1,x,h,hp=>by
    simp only [List.eraseIdx_cons_succ,List.filter_cons]
    rw [filter_eraseIdx (by simpa using h) hp]
theorem loads:sizeT TP 128 = some 32:=by kernel_rfl
def body1:Code:=.seq r2 (.seq (.cond (.tmp 12) .skip (.exit 0)) (.block 1 (.seq r3 (.seq r4 (.cond (.tmp 19) r5 .skip)))))
theorem agg_kv {w:World} {g:Gh} {H:List Obj} {c:Value} {x:List Nat} (h:Rep w g H c (.agg (exC x))):c = .agg (x.map fun (n:Nat)=>Value.int .u8 n).toArray:=by
  cases h with
  | agg ha h1 hra =>
    congr 1
    apply Array.ext
    · rw [ha]; simp [exC]
    · intro i h1 h2
      have:=hra i _ (.p (.v (I .u8 (x[i]'(by simpa using h2):Nat)))) (Array.getElem?_eq_getElem h1) (by simp [exC]; exact ⟨_,List.getElem?_eq_getElem (by simpa using h2),rfl⟩)
      simpa using this.val.1
theorem mixed:TP.follows .mixedOrders = true:=Checked.mixed Tryz.checked
theorem parts0:(∀ f args H r,call X0 Gam f args H = some r→CallSim TP knT f args H r)∧(∀ c s r,exec X0 Gam c s = some r→ExecM TP knT c s r)∧(∀ ops e H r,evOps X0 Gam ops e H = some r→OpsM TP knT ops e H r) :=
  parts_sound mixed (fun _ _ _ _ h=>by cases h) Gam_ok
section
variable {m ck b:Nat} {w0:World} {g0:Gh} {es0:List E}
theorem fr1:FrOk vs69 ⟨[],env1 m b⟩:=⟨fun n v h=>(by cases h),fun n v h=>by
  simp only [env1,lk] at h
  split at h
  · rename_i e; subst e; simp [vs69]
  · split at h
    · rename_i e; subst e; simp [vs69]
    · cases h⟩
theorem er1 {a a':Act} {w w':World} {g g':Gh} (h:EnvRel w g [] a.tmps ⟨[],env1 m b⟩) (h0:a'.tmps.getD 0 undef = a.tmps.getD 0 undef) (h1:a'.tmps.getD 10 undef = a.tmps.getD 10 undef):EnvRel w' g' [] a'.tmps ⟨[],env1 m b⟩:=by
  refine ⟨fun n v h=>(by cases h),fun n v hv=>?_⟩
  have h2:=h.env n v hv
  simp only [env1,lk] at hv
  split at hv
  · rename_i e; subst e; cases hv; rw [h0,h2.val.1]; exact .p (.v rfl)
  · split at hv
    · rename_i e; subst e; cases hv; rw [h1,h2.val.1]; exact .p (.v rfl)
    · cases hv
theorem round1 (hcd:g0.cd = CD TP knT) {Q:Exit→Act→World→Prop} (hQ:∀ a w,P1 m ck w0 g0 es0 a w→Q .normal a w) (n:Nat) (a:Act) (w:World) (hj:J1 m ck b w0 g0 es0 n a w) :
    body1.wpIn (FR none) 0 TP (Exit.then (fun a' w'=>∃ n',n' < n∧J1 m ck b w0 g0 es0 n' a' w') (Exit.inBlock 0 Q)) a w:=by
  obtain ⟨g,ents,seen,es,hb,hi,hr,hok,hds,hfl,hsn,rfl⟩:=hj
  have hmw:=hb.mw hi (it:=10) rfl
  refine wpIn_seq (roundA hmw (by decide) (by decide) (by decide) (by decide) (fun a' w' hall hw hrep h12 hoth=>?_) (fun a' w' me hme hns hw hrep h12 hoth=>?_))
  ·
    show Code.wpIn _ _ _ _ _ _ _
    refine wpIn_seq (wpIn_cond_false h12 (wpIn_exit ?_))
    show Q .normal a' w'
    refine hQ a' w' ⟨g,ents,?_,?_⟩
    · have h1:=hw.bw (er1 (w':=w') (g':=g) hb.env (hoth 0 (by decide) (by decide)) (hoth 10 (by decide) (by decide))) (fr1 (m:=m) (b:=b))
      exact h1.drop fun t v hv=>by
        simp only [lk] at hv
        split at hv
        · rename_i e; subst e; cases hv; exact ⟨by simp [vs69],by rw [(h1.env.env 0 _ rfl).val.1]; exact .p (.v rfl)⟩
        · cases hv
    · have:es.filter E.nz = es:=List.filter_eq_self.2 fun e he=>by
        obtain ⟨i,hil,rfl⟩:=List.getElem_of_mem he
        have hil':i < ents.size:=by rw [hr.1]; exact hil
        exact hsn i ents[i] _ (by simp [hil']) (by simp [hil]) (hall _ (by simp))
      rw [← hfl,this]
      exact ⟨hr.1,fun i me e h1 h2=>⟨(hr.2 i me e h1 h2).1,hrep _ _ _ (hr.2 i me e h1 h2).2⟩⟩
  ·
    show Code.wpIn _ _ _ _ _ _ _
    have hr':EntsR w' g ents es:=⟨hr.1,fun i me e h1 h2=>⟨(hr.2 i me e h1 h2).1,hrep _ _ _ (hr.2 i me e h1 h2).2⟩⟩
    have henv:=er1 (w':=w') (g':=g) hb.env (hoth 0 (by decide) (by decide)) (hoth 10 (by decide) (by decide))
    have hb':=hw.bw henv (fr1 (m:=m) (b:=b))
    have hi':=hw.iw
    obtain ⟨j,e,hj1,hj2,hkey,hval⟩:=hr'.get hme
    have heok:=hok e (List.mem_of_getElem? hj2)
    refine wpIn_seq (wpIn_cond_true h12 (wpIn_skip ?_))
    show Code.wpIn _ _ _ _ _ _ _
    refine wpIn_block (wpIn_seq (roundB (os:=os3) hw hme (by decide) (by decide) (by decide) (by decide) (by decide) (by decide) (by decide) (by decide) (by decide) (by decide) (by rw [hkey]; exact kv_rep e.x) hval henv fr1 hcd cp3 (parts0.2.2 _ _ _ _ (rest3 heok)) fun a2 w2 g2 v2 s2 n2 f2 d2 z2=>?_))
    show Code.wpIn _ _ _ _ _ _ _
    have hb2:=hb'.evo (a':=a2) v2 s2 z2 (by rw [d2]; exact hb'.dfr.evo v2) n2 f2
    have hi2:=hi'.evo v2
    have hr2:=hr'.evo v2
    refine wpIn_seq (hb2.code hcd cp4 (parts0.2.1 _ _ _ (walk4 heok)) fun e3 a3 w3 g3 x3 v3 hb3=>?_)
    have he3:e3 = .normal:=by cases e3 <;> first | rfl | exact x3.elim
    subst he3
    show Code.wpIn _ _ _ _ _ _ _
    have hi3:=hi2.evo v3
    have hr3:=hr2.evo v3
    have h19:a3.eval (.tmp 19) = .bool e.z:=(hb3.env.env 19 _ rfl).val.1
    have h0:a3.tmps.getD 0 undef = .map (some m):=(hb3.env.env 0 _ rfl).val.1
    have h10:a3.tmps.getD 10 undef = .pointer (some ⟨b,0,none⟩):=(hb3.env.env 10 _ rfl).val.1
    have hdrop:∀ {a4:Act} {w4:World} {ents4:Array MapEntry} {H4:List Obj} {env4:Env},BW m w0 g0 43 vs69 ents4 ck a4 w4 g3 ⟨env4,H4⟩→a4.tmps.getD 0 undef = .map (some m)→a4.tmps.getD 10 undef = .pointer (some ⟨b,0,none⟩)→BW m w0 g0 43 vs69 ents4 ck a4 w4 g3 ⟨env1 m b,[]⟩:=fun h hx hy=>h.drop fun t v hv=>by
      simp only [env1,lk] at hv
      split at hv
      · rename_i e; subst e; cases hv; exact ⟨by simp [vs69],by rw [hx]; exact .p (.v rfl)⟩
      · split at hv
        · rename_i e; subst e; cases hv; exact ⟨by simp [vs69],by rw [hy]; exact .p (.v rfl)⟩
        · cases hv
    have hlt:=unseen_lt hme hns
    cases hz:e.z with
    | false =>
      rw [hz] at h19
      refine wpIn_cond_false h19 (wpIn_skip ?_)
      refine ⟨_,hlt,g3,ents,seen.push me.born,es,hdrop hb3 h0 h10,hi3.drop,hr3,hok,hds,hfl,fun i me' e' h1 h2 h3=>?_,rfl⟩
      by_cases hs:seen.contains me'.born = true
      · exact hsn i me' e' h1 h2 hs
      · have hbe:me'.born = me.born:=by
          simp at h3 hs
          exact h3.resolve_left hs
        have hij:=born_inj hb.bo h1 hj1 hbe
        subst hij
        rw [hj2] at h2
        cases h2
        simp [E.nz,hz]
    | true =>
      rw [hz] at h19
      refine wpIn_cond_true h19 ?_
      have hsz3:a3.tmps.size = 43:=hb3.size
      have hd128:∃ d,TP.underlying 128 = some d∧aggT d = true:=by
        rcases und128 with h | h
        · exact ⟨_,h,rfl⟩
        · exact h
      obtain ⟨d,hd1,hd2⟩:=hd128
      obtain ⟨ti,hti,hti2⟩:=size_some loads
      refine wpIn_region ?_
      show wpOpsIn (FR none) 0 TP _ _ [0,1,2] a3 w3
      refine ops_run (cv:=.map (some m)) (w':=w3) rfl rfl (fun c hc=>by cases hc) (.inl (by simp [execOp,eval_tmp,h0])) ?_
      have hld:∀ dst ty pos after gd,RunV TP (a3.put (some 20) (.map (some m))) w3 g3 [.cells (exC e.x),.cells [.p (.v (.bool e.b)),.p e.m]] ⟨dst,.load 128 (.tmp 4),ty,pos,after,gd⟩ (.agg (exC e.x)):=fun dst ty pos after gd=>by
        refine run_loadn (u:=.ptr 0 0) hb3.far.st hd1 hd2 hti ?_ ?_
        · rw [eval_tmp,getD_put (by rw [hsz3]; decide),if_neg (by decide)]
          exact hb3.env.env 4 _ rfl
        · rw [hti2]
          have:(exC e.x).length = 32:=by rw [len_exC,heok.len]
          simp [loadC,this]
          exact List.take_of_length_le (by omega)
      obtain ⟨cv,hc1,hc2⟩:=hld (some 21) 128 "multipoly.go:139" #[] none
      have hcv:cv = e.kv:=agg_kv hc2
      subst hcv
      refine ops_run (cv:=e.kv) (w':=w3) rfl rfl (fun c hc=>by cases hc) (.inl hc1) ?_
      have hdel:=run_delete (w:=w3) hb3.mp hr3 hok hds hj2
      have hrun:∀ dst pos after gd,(execOp ((a3.put (some 20) (.map (some m))).put (some 21) e.kv).eval ⟨dst,.call ⟨.builtin .delete,#[.tmp 20,.tmp 21],#[126,128]⟩,0,pos,after,gd⟩).run TP w3 = .ok (.value (.tuple #[])) { w3 with heap:=w3.heap.setIfInBounds m (.map (ents.eraseIdxIfInBounds j) ck) }:=fun dst pos after gd=>by
        have e1:((a3.put (some 20) (.map (some m))).put (some 21) e.kv).eval (.tmp 20) = .map (some m):=by
          rw [eval_tmp,getD_put (by rw [put_size,hsz3]; decide),if_neg (by decide),getD_put (by rw [hsz3]; decide),if_pos rfl]
        have e2:((a3.put (some 20) (.map (some m))).put (some 21) e.kv).eval (.tmp 21) = e.kv:=by
          rw [eval_tmp,getD_put (by rw [put_size,hsz3]; decide),if_pos rfl]
        simp [execOp,resolve,e1,e2,Go.invoke,Go.builtin,hdel]
      refine ops_run (cv:=.tuple #[]) rfl rfl (fun c hc=>by cases hc) (.inl (hrun _ _ _ _)) ?_
      obtain ⟨t1,t2⟩:=hb3.turn (bornOk_erase (j:=j) hb3.bo)
      have hget:∀ t,t ≠ 20→t ≠ 21→(((a3.put (some 20) (.map (some m))).put (some 21) e.kv).put none (.tuple #[])).tmps.getD t undef = a3.tmps.getD t undef:=fun t ht1 ht2=>by
        show ((a3.put (some 20) (.map (some m))).put (some 21) e.kv).tmps.getD t undef = _
        rw [getD_put (by rw [put_size,hsz3]; decide),if_neg (Ne.symm ht2),getD_put (by rw [hsz3]; decide),if_neg (Ne.symm ht1)]
      have t3:=t1.act (a':=((a3.put (some 20) (.map (some m))).put (some 21) e.kv).put none (.tuple #[])) (by
        show ((a3.put (some 20) (.map (some m))).put (some 21) e.kv).tmps.size = 43
        rw [put_size,put_size,hsz3]) rfl (fun t ht=>hget t (fun e=>by subst e; simp [vs69] at ht) (fun e=>by subst e; simp [vs69] at ht))
      have hjl:j < es.length:=(List.getElem?_eq_some_iff.1 hj2).1
      refine ⟨_,?_,g3,ents.eraseIdxIfInBounds j,seen.push me.born,es.eraseIdx j,hdrop t3 ((hget 0 (by decide) (by decide)).trans h0) ((hget 10 (by decide) (by decide)).trans h10),(t2 b _ hi3).drop,
        (hr3.erase hjl).same (fun _ _ h=>h) (fun c i hD=>cellAt_heap (by
          have hcm:m ≠ c:=fun e=>hb3.noDm i (e ▸ hD)
          show (w3.heap.setIfInBounds m _)[c]? = w3.heap[c]?
          rw [Array.getElem?_setIfInBounds,if_neg hcm]) i),fun x hx=>hok x ((List.eraseIdx_sublist ..).subset hx),hds.sublist (List.eraseIdx_sublist ..),?_,?_,rfl⟩
      · exact Nat.lt_of_le_of_lt unseen_erase hlt
      · rw [filter_eraseIdx hj2 (by simp [E.nz,hz])]; exact hfl
      · intro i me' e' h1 h2 h3
        have hje:j < ents.size:=by rw [hr.1]; exact hjl
        rw [Array.eraseIdxIfInBounds,dif_pos hje,Array.getElem?_eraseIdx] at h1
        rw [List.getElem?_eraseIdx] at h2
        have go:∀ i',ents[i']? = some me'→es[i']? = some e'→i' ≠ j→e'.nz = true:=fun i' k1 k2 k3=>by
          by_cases hs:seen.contains me'.born = true
          · exact hsn i' me' e' k1 k2 hs
          · have hbe:me'.born = me.born:=by
              simp at h3 hs
              exact h3.resolve_left hs
            exact absurd (born_inj hb.bo k1 hj1 hbe) k3
        split at h1
        · rename_i hl; rw [if_pos hl] at h2; exact go i h1 h2 (by omega)
        · rename_i hl; rw [if_neg hl] at h2; exact go (i + 1) h1 h2 (by omega)
end
end Go.Proofs.YtepbfecmageleaaGreatDoor
namespace Go.Proofs.YtepbfecmageleaaGreatDoor
set_option maxRecDepth 100000
open Go
theorem P115 {b:Bool} {rows:List (List PV)} {H H1:List Obj} {K:AV→List Obj→Prop} (h:Limbs rows):WP X0 Gam 115 false [.agg [.p (.v (.bool b)),.p (.sl rows)]] H H1 K↔K (.agg [.p (.v (.bool b)),.p (.sl rows)]) H1:=WP_slice (number_pf h) rfl
theorem P116 {x:List Nat} {H H1:List Obj} {K:AV→List Obj→Prop} (hl:x.length = 32) (hb:∀ n ∈ x,n < 256):WP X0 Gam 116 false [.agg (exC x)] H H1 K↔K (.p (.sl (exRows (trim x)))) H1:=WP_slice (list_pf hl hb) rfl
section
variable {e:E}
theorem nz_limbs (he:e.Ok) (hn:e.nz = true):∃ rows,e.m = .sl rows∧Limbs rows:=by
  rcases he.mag with h | ⟨rows,h,h1,h2⟩
  · simp [E.nz,E.z,h] at hn
  · refine ⟨rows,h,?_,h1,h2⟩
    intro h0
    simp [E.nz,E.z,h,h0] at hn
def env2 (m b:Nat) (out:AV):Env:=[(0,.p (.v (.map (some m)))),(26,.p (.v (.pointer (some ⟨b,0,none⟩)))),(6,out)]
theorem canons_ex:∀ {H:List Obj} {x:List Nat},canons H (exC x) = some (exC x)
  | _,[]=>rfl
  | H,n::x=>by
    have:=canons_ex (H:=H) (x:=x)
    simp only [exC,List.map_cons] at this ⊢
    rw [canons,this]
    rfl
theorem refsL_ex:∀ {x:List Nat},refsL (exC x) = []
  | []=>rfl
  | n::x=>by
    have:=refsL_ex (x:=x)
    simp only [exC,List.map_cons] at this ⊢
    rw [refsL,this]
    rfl
theorem arsOf_ex:∀ {x:List Nat},arsOf (exC x) = []
  | []=>rfl
  | n::x=>by
    have:=arsOf_ex (x:=x)
    simp only [exC,List.map_cons] at this ⊢
    rw [arsOf,this]
    rfl
theorem ars_agg {x:List Nat}:arsOf [.agg (exC x)] = []:=by rw [arsOf,arsOf,arsA,arsOf_ex]; rfl
theorem walk12a (he:e.Ok) (hn:e.nz = true) {m b:Nat}:exec X0 Gam s12 ⟨upd (upd (env2 m b (.lit [])) 7 (.ptr 0 0)) 8 (.ptr 1 0),[.cells (exC e.x),.cells [.p (.v (.bool e.b)),.p e.m]]⟩ =
    some (.normal,⟨upd (upd (env2 m b (.ar 2 0 0 1)) 7 (.ptr 0 0)) 8 (.ptr 1 0),[.cells (exC e.x),.cells [.p (.v (.bool e.b)),.p e.m],.arr 3 none 0 [e.row]]⟩):=by
  refine exec_of ?_
  obtain ⟨rows,hm,hli⟩:=nz_limbs he hn
  have hl:(exC e.x).length = 32:=by rw [len_exC,he.len]
  have htk:List.take 32 (exC e.x) = exC e.x:=List.take_of_length_le (by omega)
  have hap:appendV [.cells (exC e.x),.cells [.p (.v (.bool e.b)),.p e.m]] 56 3 (.lit []) (.lit [e.row]) = some (.ar 2 0 0 1,[.cells (exC e.x),.cells [.p (.v (.bool e.b)),.p e.m],.arr 3 none 0 [e.row]]):=by
    simp [appendV,rowsOf,E.row]
  rw [E.row,hm] at hap
  rw [E.row,hm]
  simp [s12,EV,evOp,env2,C115,C116,hl]
  rw [P115 hli]
  simp [EV,evOp,env2,C115,C116,hl,htk,canons_ex,refsL_ex,refs,arsOf_ex,ars_agg,freeze]
  rw [P116 he.len he.u8]
  simp [EV,evOp,env2,hl,htk,canons_ex,refsL_ex,arsOf_ex,freeze,fill,splice,fillRows,partArs,toPVs,toPV,hap]
  rfl
theorem walk12b (he:e.Ok) (hn:e.nz = true) {m b n ver:Nat} {rs:List (List PV)} (hrs:rs.length = n) (hn2:n < 2048) (hver:True):exec X0 Gam s12 ⟨upd (upd (env2 m b (.ar 0 ver 0 n)) 7 (.ptr 1 0)) 8 (.ptr 2 0),[.arr 3 none ver rs,.cells (exC e.x),.cells [.p (.v (.bool e.b)),.p e.m]]⟩ =
    some (.normal,⟨upd (upd (env2 m b (.ar 0 (ver + 1) 0 (n + 1))) 7 (.ptr 1 0)) 8 (.ptr 2 0),[.arr 3 none (ver + 1) (rs++[e.row]),.cells (exC e.x),.cells [.p (.v (.bool e.b)),.p e.m]]⟩):=by
  refine exec_of ?_
  obtain ⟨rows,hm,hli⟩:=nz_limbs he hn
  have hl:(exC e.x).length = 32:=by rw [len_exC,he.len]
  have htk:List.take 32 (exC e.x) = exC e.x:=List.take_of_length_le (by omega)
  have hap:appendV [.arr 3 none ver rs,.cells (exC e.x),.cells [.p (.v (.bool e.b)),.p e.m]] 56 3 (.ar 0 ver 0 n) (.lit [e.row]) = some (.ar 0 (ver + 1) 0 (n + 1),[.arr 3 none (ver + 1) (rs++[e.row]),.cells (exC e.x),.cells [.p (.v (.bool e.b)),.p e.m]]):=by
    have h2:(n + 1) * 56 ≤ 140737488355328:=by omega
    simp only [appendV,rowsOf,Option.bind_some,E.row,List.all_cons,List.all_nil,List.length_cons,List.length_nil,Nat.zero_add,beq_self_eq_true,Bool.and_self,if_true,List.getElem?_cons_zero,hrs,h2,and_self]
    simp
  rw [E.row,hm] at hap
  rw [E.row,hm]
  simp [s12,EV,evOp,env2,C115,C116,hl]
  rw [P115 hli]
  simp [EV,evOp,env2,C115,C116,hl,htk,canons_ex,refsL_ex,refs,arsOf_ex,ars_agg,freeze]
  rw [P116 he.len he.u8]
  simp [EV,evOp,env2,hl,htk,canons_ex,refsL_ex,arsOf_ex,freeze,fill,splice,fillRows,partArs,toPVs,toPV,hap]
  rfl
theorem rest11a (he:e.Ok) {env:Env}:evOps X0 Gam (sosE 30 31 7 8) ⟨[(31,e.av),(30,.agg (exC e.x))],env⟩ [] = some ⟨upd (upd env 7 (.ptr 0 0)) 8 (.ptr 1 0),[.cells (exC e.x),.cells [.p (.v (.bool e.b)),.p e.m]]⟩:=by
  have hl:(exC e.x).length = 32:=by rw [len_exC,he.len]
  have hs:splice zero32 0 (exC e.x) = some (exC e.x):=splice_all (by simp [zero32,exC,he.len])
  refine ops_of ?_
  simp [sosE,EV,evOp,E.av,hl,hs,splice]
theorem rest11b (he:e.Ok) {env:Env} {o:Obj}:evOps X0 Gam (sosE 30 31 7 8) ⟨[(31,e.av),(30,.agg (exC e.x))],env⟩ [o] = some ⟨upd (upd env 7 (.ptr 1 0)) 8 (.ptr 2 0),[o,.cells (exC e.x),.cells [.p (.v (.bool e.b)),.p e.m]]⟩:=by
  have hl:(exC e.x).length = 32:=by rw [len_exC,he.len]
  have hs:splice zero32 0 (exC e.x) = some (exC e.x):=splice_all (by simp [zero32,exC,he.len])
  refine ops_of ?_
  simp [sosE,EV,evOp,E.av,hl,hs,splice]
end
end Go.Proofs.YtepbfecmageleaaGreatDoor
namespace Go.Proofs.YtepbfecmageleaaGreatDoor
open Go
variable [Sub]
def Gh.only (g:Gh) (k:Nat):Gh:={ g with blk:=fun _=>g.blk k,base:=fun _=>g.base k,cap:=fun _=>g.cap k }
section
variable {P:Program} {m nt ck k es ver:Nat} {vars:List Nat} {w0 w:World} {g0 g:Gh} {ents:Array MapEntry} {a:Act} {s:St} {env:Env} {H:List Obj} {rows:List (List PV)}
theorem only_own (hk:H[k]? = some (.arr es none ver rows)) {b i:Nat} (h:OwnAny (g.only k) [.arr es none ver rows] b i):OwnAny g H b i:=by
  obtain ⟨⟨l,hl,he⟩,hd⟩:=h
  exact ⟨⟨k,(List.getElem?_eq_some_iff.1 hk).1,he⟩,hd⟩
theorem only_st (hk:H[k]? = some (.arr es none ver rows)) (hs:StRel w g H):StRel w (g.only k) [.arr es none ver rows]:=by
  refine ⟨fun l o hl=>?_,fun l j hl hj _=>?_,fun l o hl=>?_,hs.dom⟩
  · cases l with
    | zero =>
      simp at hl
      subst hl
      exact hs.objs k _ hk
    | succ l=>simp at hl
  · simp at hl hj; omega
  · cases l with
    | zero =>
      simp at hl
      subst hl
      exact hs.stand k _ hk
    | succ l=>simp at hl
theorem only_ar {c:Value} {v off n:Nat} (hk:H[k]? = some (.arr es none ver rows)) (h:Rep w g H c (.ar k v off n)):Rep w (g.only k) [.arr es none ver rows] c (.ar 0 v off n):=by
  cases h with
  | ar h =>
    obtain ⟨h1,h2,es',fz',ver',rows',hH,h3,h4,h5⟩:=h
    rw [hk] at hH
    cases hH
    exact .ar ⟨h1,h2,es,none,ver,rows,rfl,h3,h4,h5⟩
theorem BW.only (h:BW m w0 g0 nt vars ents ck a w g ⟨s.env,H⟩) (hk:H[k]? = some (.arr es none ver rows)) (he:∀ t v,lk env t = some v→t ∈ vars∧Rep w (g.only k) [.arr es none ver rows] (a.tmps.getD t undef) v):BW m w0 g0 nt vars ents ck a w (g.only k) ⟨env,[.arr es none ver rows]⟩:=by
  refine ⟨⟨h.far.D,h.far.cells,h.far.keep,fun b i ho=>h.far.own b i (only_own hk ho),h.far.newD,h.far.cd,only_st hk h.far.st⟩,h.size,?_,h.mp,fun i ho=>h.unm i (only_own hk ho),h.noDm,h.mlt,h.bo,⟨fun t v ht=>(by cases ht),fun t v ht=>(he t v ht).2⟩,⟨fun t v ht=>(by cases ht),fun t v ht=>(he t v ht).1⟩⟩
  obtain ⟨bs,h1,h2,h3⟩:=h.dfr
  exact ⟨bs,h1,h2,fun c hc=>⟨(h3 c hc).1,(h3 c hc).2.1,fun i ho=>(h3 c hc).2.2 i (only_own hk ho)⟩⟩
theorem IW.only {b:Nat} {seen:Array Nat} (h:IW m w0 b ck seen w g H) (hk:H[k]? = some (.arr es none ver rows)):IW m w0 b ck seen w (g.only k) [.arr es none ver rows]:=⟨h.iter,fun i ho=>h.unb i (only_own hk ho),h.noDb,h.bge⟩
theorem EntsR.only {es':List E} (h:EntsR w g ents es'):EntsR w (g.only k) ents es':=h.same (fun _ _ h=>h) (fun _ _ _=>rfl)
end
theorem filter_push {p:MapEntry×E→Bool} {seen:Array Nat} {me:MapEntry} {e:E}:∀ {l:List (MapEntry×E)},l.Pairwise (fun a b=>a.1.born ≠ b.1.born)→(me,e) ∈ l→seen.contains me.born = false →
    (l.filter fun x=>!seen.contains x.1.born).Perm ((me,e)::l.filter fun x=>!(seen.push me.born).contains x.1.born)
  | [],_,h,_=>by cases h
  | y::l,hp,h,hs=>by
    rw [List.pairwise_cons] at hp
    have hq:∀ x:MapEntry×E,(seen.push me.born).contains x.1.born = (seen.contains x.1.born || x.1.born == me.born):=fun x=>by
      rw [Bool.eq_iff_iff]; simp
    simp only [List.filter_cons,hq]
    by_cases hy:y = (me,e)
    · subst hy
      have hrest:(l.filter fun x=>!(seen.contains x.1.born || x.1.born == me.born)) = l.filter fun x=>!seen.contains x.1.born:=by
        refine List.filter_congr fun x hx=>?_
        have:(x.1.born == me.born) = false:=by simpa using Ne.symm (hp.1 x hx)
        rw [this,Bool.or_false]
      simp only [hs,hrest,Bool.not_false,if_true,beq_self_eq_true,Bool.or_true,Bool.not_true,Bool.false_eq_true,if_false]
      exact .refl _
    · have hl:(me,e) ∈ l:=by
        rcases List.mem_cons.1 h with h | h
        · exact absurd h.symm hy
        · exact h
      have ih:=filter_push (p:=p) hp.2 hl hs
      simp only [hq] at ih
      have hne:(y.1.born == me.born) = false:=by simpa using hp.1 _ hl
      rw [hne,Bool.or_false]
      split
      · exact (List.Perm.cons y ih).trans (List.Perm.swap ..)
      · exact ih
def left (seen:Array Nat) (ents:Array MapEntry) (es:List E):List E:=((ents.toList.zip es).filter fun x=>!seen.contains x.1.born).map (·.2)
section
variable {w:World} {g:Gh} {ents:Array MapEntry} {es:List E} {seen:Array Nat} {ck:Nat}
theorem zip_pw (hb:BornOk ents ck):(ents.toList.zip es).Pairwise (fun a b=>a.1.born ≠ b.1.born):=by
  have:=hb.1
  rw [List.pairwise_iff_getElem] at this ⊢
  intro i j hi hj hij
  simp only [List.length_zip] at hi hj
  simp only [List.getElem_zip]
  have:=this i j (by omega) (by omega) hij
  omega
theorem left_push (hb:BornOk ents ck) {j:Nat} {me:MapEntry} {e:E} (h1:ents[j]? = some me) (h2:es[j]? = some e) (hs:seen.contains me.born = false):(left seen ents es).Perm (e::left (seen.push me.born) ents es):=by
  have hm:(me,e) ∈ ents.toList.zip es:=by
    refine List.mem_of_getElem? (i:=j) ?_
    rw [List.getElem?_zip_eq_some]
    exact ⟨by simpa using h1,h2⟩
  exact (filter_push (p:=fun _=>true) (zip_pw hb) hm hs).map (·.2)
theorem left_all (h:∀ me ∈ ents.toList,seen.contains me.born = true):left seen ents es = []:=by
  unfold left
  rw [List.map_eq_nil_iff,List.filter_eq_nil_iff]
  intro x hx
  simp [List.contains_iff_mem] at *
  have:=h x.1 (by have:=(List.of_mem_zip hx).1; simpa using this)
  exact this
theorem left_none (h:ents.size = es.length):left #[] ents es = es:=by
  unfold left
  rw [List.filter_eq_self.2 (by simp)]
  rw [List.map_snd_zip (by simp [h])]
end
end Go.Proofs.YtepbfecmageleaaGreatDoor
namespace Go.Proofs.YtepbfecmageleaaGreatDoor
set_option maxRecDepth 100000
open Go
variable [Sub]
def OutR (done:List E) (out:AV) (H:List Obj):Prop:=(done = []∧out = .lit []∧H = [])∨∃ ver,done ≠ []∧out = .ar 0 ver 0 done.length∧H = [.arr 3 none ver (done.map E.row)]
def J2 (m ck b:Nat) (w0:World) (g0:Gh) (es:List E) (n:Nat) (a:Act) (w:World):Prop :=
  ∃ g ents seen done out H,BW m w0 g0 43 vs69 ents ck a w g ⟨env2 m b out,H⟩∧IW m w0 b ck seen w g H∧EntsR w g ents es∧(done++left seen ents es).Perm es∧OutR done out H∧n = unseen seen ents
def P2 (m ck:Nat) (w0:World) (g0:Gh) (es:List E) (a:Act) (w:World):Prop :=
  ∃ g ents done out H,BW m w0 g0 43 vs69 ents ck a w g ⟨[(0,.p (.v (.map (some m)))),(6,out)],H⟩∧EntsR w g ents es∧done.Perm es∧OutR done out H
def body2:Code:=.seq r10 (.seq (.cond (.tmp 28) .skip (.exit 2)) (.block 3 (.seq r11 r12)))
section
variable {m ck b:Nat} {w0:World} {g0:Gh} {es:List E}
theorem fr2 {out:AV}:FrOk vs69 ⟨[],env2 m b out⟩:=⟨fun n v h=>(by cases h),fun n v h=>by
  simp only [env2,lk] at h
  split at h
  · rename_i e; subst e; simp [vs69]
  · split at h
    · rename_i e; subst e; simp [vs69]
    · split at h
      · rename_i e; subst e; simp [vs69]
      · cases h⟩
theorem er2 {a a':Act} {w w':World} {g:Gh} {H:List Obj} {out:AV} (h:EnvRel w g H a.tmps ⟨[],env2 m b out⟩) (hr:∀ c v,Rep w g H c v→Rep w' g H c v) (ht:∀ t ∈ vs69,t ≠ 28→a'.tmps.getD t undef = a.tmps.getD t undef):EnvRel w' g H a'.tmps ⟨[],env2 m b out⟩:=by
  refine ⟨fun n v h=>(by cases h),fun n v hv=>?_⟩
  have h2:=h.env n v hv
  have h3:=fr2.env n v hv
  rw [ht n h3 (fun e=>by subst e; simp [env2,lk] at hv)]
  exact hr _ _ h2
theorem round2 (hcd:g0.cd = CD TP knT) (hok:∀ e ∈ es,E.Ok e) (hnz:∀ e ∈ es,e.nz = true) (hlen:es.length ≤ 2048) {Q:Exit→Act→World→Prop} (hQ:∀ a w,P2 m ck w0 g0 es a w→Q .normal a w) (n:Nat) (a:Act) (w:World) (hj:J2 m ck b w0 g0 es n a w) :
    body2.wpIn (FR none) 0 TP (Exit.then (fun a' w'=>∃ n',n' < n∧J2 m ck b w0 g0 es n' a' w') (Exit.inBlock 2 Q)) a w:=by
  obtain ⟨g,ents,seen,done,out,H,hb,hi,hr,hpm,hout,rfl⟩:=hj
  have hmw:=hb.mw hi (it:=26) rfl
  have oth:∀ {a':Act},(∀ t,t ≠ 27→t ≠ 28→a'.tmps.getD t undef = a.tmps.getD t undef)→∀ t ∈ vs69,t ≠ 28→a'.tmps.getD t undef = a.tmps.getD t undef:=fun h t ht h28=>h t (fun e=>by subst e; simp [vs69] at ht) h28
  refine wpIn_seq (roundA hmw (by decide) (by decide) (by decide) (by decide) (fun a' w' hall hw hrep h12 hoth=>?_) (fun a' w' me hme hns hw hrep h12 hoth=>?_))
  ·
    show Code.wpIn _ _ _ _ _ _ _
    refine wpIn_seq (wpIn_cond_false h12 (wpIn_exit ?_))
    show Q .normal a' w'
    rw [left_all hall,List.append_nil] at hpm
    have h1:=hw.bw (er2 (w':=w') hb.env (hrep H) (oth hoth)) (fr2 (m:=m) (b:=b))
    refine hQ a' w' ⟨g,ents,done,out,H,⟨h1.far,h1.size,h1.dfr,h1.mp,h1.unm,h1.noDm,h1.mlt,h1.bo,⟨fun t v ht=>(by cases ht),fun t v hv=>?_⟩,⟨fun t v ht=>(by cases ht),fun t v hv=>?_⟩⟩,⟨hr.1,fun i me e h1 h2=>⟨(hr.2 i me e h1 h2).1,hrep _ _ _ (hr.2 i me e h1 h2).2⟩⟩,hpm,hout⟩
    · refine h1.env.env t v ?_
      simp only [lk] at hv
      simp only [env2,lk]
      split at hv
      · rename_i e; rw [if_pos e]; exact hv
      · rename_i e
        rw [if_neg e]
        split at hv
        · rename_i e2; subst e2; simpa using hv
        · cases hv
    · simp only [lk] at hv
      split at hv
      · rename_i e; subst e; simp [vs69]
      · split at hv
        · rename_i e; subst e; simp [vs69]
        · cases hv
  ·
    show Code.wpIn _ _ _ _ _ _ _
    have hr':EntsR w' g ents es:=⟨hr.1,fun i me e h1 h2=>⟨(hr.2 i me e h1 h2).1,hrep _ _ _ (hr.2 i me e h1 h2).2⟩⟩
    have henv:=er2 (w':=w') hb.env (hrep H) (oth hoth)
    have hb':=hw.bw henv (fr2 (m:=m) (b:=b))
    have hi':=hw.iw
    obtain ⟨j,e,hj1,hj2,hkey,hval⟩:=hr'.get hme
    have heok:=hok e (List.mem_of_getElem? hj2)
    have henz:=hnz e (List.mem_of_getElem? hj2)
    have hlt:=unseen_lt hme hns
    have hpm':((done++[e])++left (seen.push me.born) ents es).Perm es:=by
      refine List.Perm.trans ?_ hpm
      rw [List.append_assoc]
      exact List.Perm.append_left done (left_push hb.bo hj1 hj2 hns).symm
    have hdl:done.length < 2048:=by
      have:=hpm'.length_eq
      simp at this
      omega
    refine wpIn_seq (wpIn_cond_true h12 (wpIn_skip ?_))
    show Code.wpIn _ _ _ _ _ _ _
    have hvH:Rep w' g H me.val e.av:=hval.bare (by
      unfold E.av
      simp [refs,refsL])
    have fin:∀ {env3:Env} {k ver:Nat} {H4:List Obj} {a4:Act} {w4:World} {g4:Gh},BW m w0 g0 43 vs69 ents ck a4 w4 g4 ⟨env3,H4⟩→IW m w0 b ck (seen.push me.born) w4 g4 H4→EntsR w4 g4 ents es →
        lk env3 0 = some (.p (.v (.map (some m))))→lk env3 26 = some (.p (.v (.pointer (some ⟨b,0,none⟩))))→lk env3 6 = some (.ar k ver 0 (done++[e]).length)→H4[k]? = some (.arr 3 none ver ((done++[e]).map E.row)) →
        ∃ n',n' < unseen seen ents∧J2 m ck b w0 g0 es n' a4 w4:=fun {env3 k ver H4 a4 w4 g4} q1 q2 q3 e0 e26 e6 hk=>by
      refine ⟨_,hlt,g4.only k,ents,seen.push me.born,done++[e],.ar 0 ver 0 (done++[e]).length,_,BW.only (s:=⟨env3,H4⟩) q1 hk (fun t v hv=>?_),q2.only hk,q3.only,hpm',.inr ⟨ver,by simp,rfl,rfl⟩,rfl⟩
      refine ⟨fr2.env t v hv,?_⟩
      simp only [env2,lk] at hv
      split at hv
      · rename_i h; subst h; cases hv; rw [(q1.env.env 0 _ e0).val.1]; exact .p (.v rfl)
      · split at hv
        · rename_i h; subst h; cases hv; rw [(q1.env.env 26 _ e26).val.1]; exact .p (.v rfl)
        · split at hv
          · rename_i h; subst h; cases hv; exact only_ar hk (q1.env.env 6 _ e6)
          · cases hv
    rcases hout with ⟨rfl,rfl,rfl⟩ | ⟨ver,hne,rfl,rfl⟩
    · refine wpIn_block (wpIn_seq (roundB (os:=os11) hw hme (by decide) (by decide) (by decide) (by decide) (by decide) (by decide) (by decide) (by decide) (by decide) (by decide) (by rw [hkey]; exact kv_rep e.x) hvH henv fr2 hcd cp11 (parts0.2.2 _ _ _ _ (rest11a heok)) fun a2 w2 g2 v2 s2 n2 f2 d2 z2=>?_))
      show Code.wpIn _ _ _ _ _ _ _
      have hb2:=hb'.evo (a':=a2) v2 s2 z2 (by rw [d2]; exact hb'.dfr.evo v2) n2 f2
      refine (hb2.code hcd cp12 (parts0.2.1 _ _ _ (walk12a heok henz)) fun e3 a3 w3 g3 x3 v3 hb3=>?_)
      have he3:e3 = .normal:=by cases e3 <;> first | rfl | exact x3.elim
      subst he3
      exact fin (k:=2) (ver:=0) hb3 ((hi'.evo v2).evo v3) ((hr'.evo v2).evo v3) rfl rfl rfl rfl
    · refine wpIn_block (wpIn_seq (roundB (os:=os11) hw hme (by decide) (by decide) (by decide) (by decide) (by decide) (by decide) (by decide) (by decide) (by decide) (by decide) (by rw [hkey]; exact kv_rep e.x) hvH henv fr2 hcd cp11 (parts0.2.2 _ _ _ _ (rest11b heok)) fun a2 w2 g2 v2 s2 n2 f2 d2 z2=>?_))
      show Code.wpIn _ _ _ _ _ _ _
      have hb2:=hb'.evo (a':=a2) v2 s2 z2 (by rw [d2]; exact hb'.dfr.evo v2) n2 f2
      refine (hb2.code hcd cp12 (parts0.2.1 _ _ _ (walk12b heok henz (n:=done.length) (by simp) hdl trivial)) fun e3 a3 w3 g3 x3 v3 hb3=>?_)
      have he3:e3 = .normal:=by cases e3 <;> first | rfl | exact x3.elim
      subst he3
      exact fin (k:=0) (ver:=ver + 1) hb3 ((hi'.evo v2).evo v3) ((hr'.evo v2).evo v3) rfl rfl (by rw [List.length_append]; rfl) (by rw [List.map_append]; rfl)
end
end Go.Proofs.YtepbfecmageleaaGreatDoor
namespace Go.Proofs.YtepbfecmageleaaGreatDoor
open Go Go.Sort
variable [Sub]
section
variable {w:World} {g:Gh} {H:List Obj}
theorem evo_grown:∀ (l:List Go.Obj) {w:World},StRel w g H→Evo w g H (grow w l.toArray) g H∧StRel (grow w l.toArray) g H
  | [],w,hs=>by
    rw [show ([]:List Go.Obj).toArray = #[] from rfl,grow_empty]
    exact ⟨.refl _ _ _,hs⟩
  | o::l,w,hs=>by
    have e:grow w (o::l).toArray = grow (w.alloc o) l.toArray:=by
      rw [alloc_eq_grow,grow_grow]
      congr 1
      simp
    rw [e]
    have hp:Pushed w (w.alloc o) o:=⟨rfl,rfl,rfl,⟨rfl,Nat.le_refl _⟩⟩
    obtain ⟨e1,s1⟩:=evo_push hp hs
    obtain ⟨e2,s2⟩:=evo_grown l s1
    exact ⟨e1.trans e2,s2⟩
theorem evo_sorted {α:Type} [Inhabited α] {l es ver n:Nat} {rows rows':List (List PV)} {enc:α→List Value} {d':Array α} (hs:StRel w g H) (hH:H[l]? = some (.arr es none ver rows)) (hlen:rows'.length = rows.length) (hes:∀ r ∈ rows',r.length = es)
    (hd:d'.size = rows'.length) (hrep:∀ (i j:Nat) (row:List PV) (x:PV),rows'[i]? = some row→row[j]? = some x→∃ u,(enc d'[i]!)[j]? = some u∧RepP w g.D u x) :
    Evo w g H (putRowK enc es (Sort.ahead w n) (g.blk l) (g.base l) d') g (H.set l (.arr es none ver rows'))∧StRel (putRowK enc es (Sort.ahead w n) (g.blk l) (g.base l) d') g (H.set l (.arr es none ver rows')):=by
  obtain ⟨h1,h2,⟨vs,e,h3,h4⟩,h5,h6⟩:=hs.objs _ _ hH
  have hll:l < H.length:=(List.getElem?_eq_some_iff.1 hH).1
  have hnoD:∀ i,¬ g.D (g.blk l) i:=hs.stand l _ hH
  generalize hw1:putRowK enc es (Sort.ahead w n) (g.blk l) (g.base l) d' = w1
  have hblk:w1.heap[g.blk l]? = some (.cells (putCells id (g.base l) (flatK enc es d') vs) e (0,0)):=by
    subst hw1
    simp only [putRowK,putRow,mapBlock,Array.getElem?_modify,if_true,heap_ahead,h3,Option.map_some,onCells]
  have hsz:(putCells id (g.base l) (flatK enc es d') vs).size = vs.size:=by simp [putCells]
  have ho:Only w w1 (g.blk l) g.D:=by
    refine ⟨fun b hb=>?_,?_,?_,?_,?_,fun vs' e' f hv=>?_,fun h=>absurd h3 (h _ _ _)⟩
    · subst hw1; simp [putRowK,putRow,mapBlock,Array.getElem?_modify,Ne.symm hb]
    · subst hw1; simp [putRowK,putRow,mapBlock]
    · subst hw1; rfl
    · subst hw1; rfl
    · subst hw1; exact ⟨rfl,by show w.drawn ≤ w.drawn + n; omega⟩
    · rw [h3] at hv
      cases hv
      exact ⟨_,hblk,hsz,fun i hi=>absurd hi (hnoD i)⟩
  refine evo_obj (g':=g) (o':=.arr es none ver rows') (Q:=fun _=>False) hs hH rfl rfl rfl (fun b i=>by simp) ho (.store hH (List.getElem?_set_self hll) hlen rfl rfl rfl)
    (fun _=>⟨by rw [hlen]; exact h1,hes,⟨_,e,hblk,by rw [hsz]; exact h4⟩,fun i j row x hi hj=>?_,fun _ _ hf=>by cases hf⟩) hnoD
  obtain ⟨u,hu,hr⟩:=hrep i j row x hi hj
  refine ⟨u,?_,hr.mono (fun _ _ h=>h) ho.cells⟩
  have hil:i < rows'.length:=(List.getElem?_eq_some_iff.1 hi).1
  have hjl:j < es:=by rw [← hes row (List.mem_of_getElem? hi)]; exact (List.getElem?_eq_some_iff.1 hj).1
  have hfit:i * es + es ≤ rows'.length * es:=by
    have:=Nat.mul_le_mul_right es (show i + 1 ≤ rows'.length by omega); rwa [Nat.add_mul,Nat.one_mul] at this
  have hcap:rows'.length * es ≤ g.cap l * es:=Nat.mul_le_mul_right _ (by omega)
  have hk:g.base l + i * es + j < vs.size:=by omega
  have hF:(flatK enc es d').size = d'.size * es:=size_flatK ..
  have hdiv:(i * es + j) / es = i:=by rw [Nat.mul_comm,Nat.mul_add_div (by omega),Nat.div_eq_of_lt hjl]; omega
  have hmod:(i * es + j) % es = j:=by rw [Nat.mul_comm,Nat.mul_add_mod,Nat.mod_eq_of_lt hjl]
  rw [cellAt_cells hblk]
  have hg:=get_flatK enc es d' (i * es + j) (by rw [hd]; omega)
  rw [hdiv,hmod] at hg
  have hu':(enc d'[i]!)[j]! = u:=by
    rw [List.getElem!_eq_getElem?_getD,hu]; rfl
  simp only [putCells,Array.getElem?_mapIdx,Array.getElem?_eq_getElem hk,Option.map_some]
  rw [if_pos ⟨by omega,by rw [hF,hd]; omega⟩,show g.base l + i * es + j - g.base l = i * es + j by omega,hg,hu']
  rfl
end
end Go.Proofs.YtepbfecmageleaaGreatDoor
namespace Go.Proofs.YtepbfecmageleaaGreatDoor
open Go Go.Sort
theorem headD_getD {l:List Nat}:l.headD 0 = l.getD 0 0:=by cases l <;> rfl
theorem tail_getD {l:List Nat} {k:Nat}:l.tail.getD k 0 = l.getD (k + 1) 0:=by cases l <;> simp
theorem ordE_congr:∀ {n:Nat} {a b a' b':List Nat},(∀ k,a.getD k 0 = a'.getD k 0)→(∀ k,b.getD k 0 = b'.getD k 0)→ordE n a b = ordE n a' b'
  | 0,_,_,_,_,_,_=>rfl
  | n + 1,a,b,a',b',ha,hb=>by
    have h1:a.headD 0 = a'.headD 0:=by rw [headD_getD,headD_getD]; exact ha 0
    have h2:b.headD 0 = b'.headD 0:=by rw [headD_getD,headD_getD]; exact hb 0
    rw [ordE,ordE,h1,h2,ordE_congr (a':=a'.tail) (b':=b'.tail) (fun k=>by rw [tail_getD,tail_getD]; exact ha (k + 1)) (fun k=>by rw [tail_getD,tail_getD]; exact hb (k + 1))]
theorem ordE_nil:∀ {n:Nat},ordE n [] [] = 0
  | 0=>rfl
  | n + 1=>by simp [ordE,ordE_nil]
theorem ordE_pad:∀ {m n:Nat} {a b:List Nat},a.length ≤ m→b.length ≤ m→m ≤ n→ordE n a b = ordE m a b
  | 0,n,a,b,ha,hb,_=>by
    cases List.eq_nil_of_length_eq_zero (show a.length = 0 by omega)
    cases List.eq_nil_of_length_eq_zero (show b.length = 0 by omega)
    rw [ordE_nil]; rfl
  | m + 1,0,a,b,_,_,h=>by omega
  | m + 1,n + 1,a,b,ha,hb,h=>by
    rw [ordE,ordE,ordE_pad (m:=m) (n:=n) (by simp; omega) (by simp; omega) (by omega)]
theorem trim_getD:∀ {a:List Nat} {k:Nat},(trim a).getD k 0 = a.getD k 0
  | [],k=>rfl
  | x::a,k=>by
    have ih:∀ k,(trim a).getD k 0 = a.getD k 0:=fun k=>trim_getD
    rw [trim]
    split
    · rename_i h0
      rw [h0] at ih
      split
      · rename_i hx
        subst hx
        cases k with
        | zero=>rfl
        | succ k=>have:=ih k; simpa using this
      · cases k with
        | zero=>rfl
        | succ k=>have:=ih k; simpa using this
    · cases k with
      | zero=>rfl
      | succ k=>have:=ih k; simpa using this
theorem trim_len:∀ {a:List Nat},(trim a).length ≤ a.length
  | []=>by simp [trim]
  | x::a=>by
    have:=@trim_len a
    rw [trim]
    split
    · split <;> simp
    · simp; exact this
theorem cmp_eq {a b:List Nat} (ha:a.length = 32) (hb:b.length = 32):ordE (max (trim a).length (trim b).length) (trim a) (trim b) = ordE 32 a b:=by
  have h1:=@trim_len a
  have h2:=@trim_len b
  rw [← ordE_pad (n:=32) (by omega) (by omega) (by omega)]
  exact ordE_congr (fun k=>trim_getD) (fun k=>trim_getD)
theorem ordE_self:∀ {n:Nat} {a:List Nat},ordE n a a = 0
  | 0,_=>rfl
  | n + 1,a=>by rw [ordE,if_pos rfl,ordE_self]
theorem ordE_neg:∀ {n:Nat} {a b:List Nat},ordE n b a = -ordE n a b
  | 0,_,_=>rfl
  | n + 1,a,b=>by
    rw [ordE,ordE]
    by_cases h:a.headD 0 = b.headD 0
    · rw [if_pos h,if_pos h.symm,ordE_neg]
    · rw [if_neg h,if_neg (Ne.symm h)]
      by_cases h1:a.headD 0 < b.headD 0
      · rw [if_pos h1,if_neg (by omega)]; rfl
      · rw [if_neg h1,if_pos (by omega)]
theorem ordE_trans:∀ {n:Nat} {a b c:List Nat},(ordE n a b < 0→ordE n b c ≤ 0→ordE n a c < 0)∧(ordE n a b ≤ 0→ordE n b c < 0→ordE n a c < 0)∧(ordE n a b ≤ 0→ordE n b c ≤ 0→ordE n a c ≤ 0)
  | 0,_,_,_=>by simp [ordE]
  | n + 1,a,b,c=>by
    have ih:=@ordE_trans n a.tail b.tail c.tail
    rw [ordE,ordE,ordE]
    by_cases h1:a.headD 0 = b.headD 0
    · by_cases h2:b.headD 0 = c.headD 0
      · rw [if_pos h1,if_pos h2,if_pos (h1.trans h2)]; exact ih
      · rw [if_pos h1,if_neg h2,h1,if_neg h2]
        split <;> refine ⟨fun _ _=>?_,fun _ _=>?_,fun _ _=>?_⟩ <;> omega
    · by_cases h2:b.headD 0 = c.headD 0
      · rw [if_neg h1,if_pos h2,← h2,if_neg h1]
        split <;> refine ⟨fun _ _=>?_,fun _ _=>?_,fun _ _=>?_⟩ <;> omega
      · rw [if_neg h1,if_neg h2]
        split <;> split <;> split <;> (try split) <;> refine ⟨fun _ _=>?_,fun _ _=>?_,fun _ _=>?_⟩ <;> omega
theorem ordE_zero:∀ {n:Nat} {a b:List Nat},a.length = n→b.length = n→ordE n a b = 0→a = b
  | 0,a,b,ha,hb,_=>by
    cases List.eq_nil_of_length_eq_zero ha
    cases List.eq_nil_of_length_eq_zero hb
    rfl
  | n + 1,x::a,y::b,ha,hb,h=>by
    rw [show ordE (n + 1) (x::a) (y::b) = if x = y then ordE n a b else if x < y then -1 else 1 from rfl] at h
    by_cases h1:x = y
    · rw [if_pos h1] at h
      rw [h1,ordE_zero (by simpa using ha) (by simpa using hb) h]
    · rw [if_neg h1] at h
      split at h <;> cases h
  | n + 1,[],_,ha,_,_=>by cases ha
  | n + 1,_::_,[],_,hb,_=>by cases hb
theorem ordE_swo {α:Type} (f:α→List Nat):SWO (fun x y:α=>decide (ordE 32 (f x) (f y) < 0)):=by
  refine ⟨fun x=>by simp [ordE_self],fun x y z h1 h2=>?_,fun x y z h1 h2=>?_⟩
  · simp only [decide_eq_true_eq] at *
    exact ordE_trans.1 h1 (by omega)
  · simp only [decide_eq_false_iff_not,Int.not_lt] at *
    have h3:=@ordE_neg 32 (f x) (f y)
    have h4:=@ordE_neg 32 (f y) (f z)
    have h5:=@ordE_neg 32 (f x) (f z)
    have:=(@ordE_trans 32 (f z) (f y) (f x)).2.2 (by omega) (by omega)
    omega
end Go.Proofs.YtepbfecmageleaaGreatDoor
