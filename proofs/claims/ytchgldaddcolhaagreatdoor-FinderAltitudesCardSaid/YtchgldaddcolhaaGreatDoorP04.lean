/- Part of the proof of Rows.FinderAltitudesCardSaid: EvX, EvQt, FaQu, EvK. -/
import Derived.RecoverIn
import Derived.Test.YtchgldaddcolhaaGreatDoorProg
import Derived.KernelRfl
import Derived.Test.YtchgldaddcolhaaGreatDoorP01
import Derived.Test.YtchgldaddcolhaaGreatDoorP03
set_option linter.all false
namespace Go.Proofs.YtchgldaddcolhaaGreatDoor
open Go
variable[Sub]
def ExitRel:SExit→Exit→Prop
 | .normal,.normal=>True
 | .exit i,.exit j=>i = j
 | .ret,.ret=>True
 | _,_=>False
def mark(b:Nat):Deferred:={ target:=.collected b,args:=#[] }
def QuietF(P:Program)(f:FuncId):Prop:=FnOk P f∧∀ (caps:Array Value) (w:World),CallsDIn (FR none) 0 P f caps .returning w fun e u' w'=>(∃ v,e = .returned v)∧u' = .returning∧w' = w
def dfr:Nat ⊕ (FuncId×Array Value)→Deferred
 | .inl b=>mark b
 | .inr p=>{ target:=.fn (.func p.1) p.2,args:=#[] }
def lefts(bs:List (Nat ⊕ (FuncId×Array Value))):List Nat:=bs.filterMap fun | .inl b=>some b | .inr _=>none
theorem mem_lefts{bs:List (Nat ⊕ (FuncId×Array Value))}{b:Nat}:b ∈ lefts bs↔.inl b ∈ bs:=by
 simp only[lefts,List.mem_filterMap]
 constructor
 ·rintro⟨x,hx,he⟩
  cases x with
  | inl c=>simp only[Option.some.injEq]at he; subst he; exact hx
  | inr p=>simp at he
 ·exact fun h=>⟨_,h,rfl⟩
def Marks(P:Program)(n0:Nat)(w:World)(g:Gh)(H:List Obj)(l:List Deferred):Prop :=
 ∃ bs:List (Nat ⊕ (FuncId×Array Value)),l = bs.map dfr∧(lefts bs).Nodup∧(∀ b ∈ lefts bs,n0 ≤ b∧w.heap[b]? = some (.deferred (some []))∧∀ i,¬ OwnAny g H b i)∧∀ p,.inr p ∈ bs→QuietF P p.1
theorem Marks.nil{P:Program}{n0:Nat}{w:World}{g:Gh}{H:List Obj}:Marks P n0 w g H []:=⟨[],rfl,List.nodup_nil,(fun b h=>by cases h),fun b h=>by cases h⟩
theorem Marks.push{P:Program}{n0:Nat}{w:World}{g:Gh}{H:List Obj}{l:List Deferred}{f:FuncId}{c:Array Value}(h:Marks P n0 w g H l)(hf:QuietF P f):Marks P n0 w g H ({ target:=.fn (.func f) c,args:=#[] }::l):=by
 obtain⟨bs,h1,h2,h3,h4⟩:=h
 refine⟨.inr (f,c)::bs,by rw[h1]; rfl,h2,h3,fun p hp=>?_⟩
 rcases List.mem_cons.1 hp with e | hp
 ·cases e; exact hf
 ·exact h4 p hp
theorem unowned_evo{w w':World}{g g':Gh}{H H':List Obj}{b:Nat}{o:Go.Obj}(hv:Evo w g H w' g' H')(hb:w.heap[b]? = some o)(hn:∀ i,¬ OwnAny g H b i):w'.heap[b]? = some o∧∀ i,¬ OwnAny g' H' b i:=by
 have hlt:b < w.heap.size:=(Array.getElem?_eq_some_iff.1 hb).1
 refine⟨by rw[hv.keep.same hlt hn]; exact hb,fun i ho=>?_⟩
 rcases hv.own b i ho with h | h
 ·exact hn i h
 ·omega
theorem Marks.evo{P:Program}{n0:Nat}{w w':World}{g g':Gh}{H H':List Obj}{l:List Deferred}(h:Marks P n0 w g H l)(hv:Evo w g H w' g' H'):Marks P n0 w' g' H' l:=by
 obtain⟨bs,h1,h2,h3,h4⟩:=h
 exact⟨bs,h1,h2,fun b hb=>⟨(h3 b hb).1,unowned_evo hv (h3 b hb).2.1 (h3 b hb).2.2⟩,h4⟩
def PostX(P:Program)(n0:Nat)(vars:List Nat)(w:World)(g:Gh)(H:List Obj)(a:Act)(r:SExit×St):Exit→Act→World→Prop:=fun e a' w' =>
 ExitRel r.1 e∧∃ g',Evo w g H w' g' r.2.H∧StRel w' g' r.2.H∧EnvRel w' g' r.2.H a'.tmps ⟨[],r.2.env⟩∧FrOk vars ⟨[],r.2.env⟩∧Marks P n0 w' g' r.2.H a'.defers∧a'.tmps.size = a.tmps.size
structure Pre (P:Program) (kn:TypeId→Bool) (n0:Nat) (r0:Option Nat) (nt:Nat) (vars:List Nat) (a:Act) (w:World) (g:Gh) (s:St):Prop where
 env:EnvRel w g s.H a.tmps ⟨[],s.env⟩
 fr:FrOk vars ⟨[],s.env⟩
 size:nt ≤ a.tmps.size
 st:StRel w g s.H
 cd:g.cd = CD P kn
 mks:Marks P n0 w g s.H a.defers
 nle:n0 ≤ w.heap.size
 rd:∀ l0,r0 = some l0→∃ l,Rep w g s.H (.func (.yield l0) #[] #[]) (.yld l)
 qt:1000002 ∈ vars→r0 = none∧∀ f,kn (3000000 + f) = true→QuietF P f
theorem PostX.pre{P:Program}{kn:TypeId→Bool}{n0:Nat}{r0:Option Nat}{nt:Nat}{vars:List Nat}{a a':Act}{w w':World}{g:Gh}{s:St}{r:SExit×St}{e:Exit}(h:PostX P n0 vars w g s.H a r e a' w')(hp:Pre P kn n0 r0 nt vars a w g s) :
  ∃ g',Evo w g s.H w' g' r.2.H∧Pre P kn n0 r0 nt vars a' w' g' r.2∧a'.tmps.size = a.tmps.size:=by
 obtain⟨_,g',h1,h2,h3,h4,h5,h6⟩:=h
 exact⟨g',h1,⟨h3,h4,by rw[h6]; exact hp.size,h2,h1.cd.trans hp.cd,h5,Nat.le_trans hp.nle h1.keep.2.2.2.1,(fun l0 hl=>let ⟨l,hr⟩:=hp.rd l0 hl; ⟨l,h1.rep _ _ hr⟩),hp.qt⟩,h6⟩
theorem PostX.trans{P:Program}{n0:Nat}{vars:List Nat}{a a' a'':Act}{w w' w'':World}{g g':Gh}{H H':List Obj}{r:SExit×St}{e:Exit}(hv:Evo w g H w' g' H')(hs:a'.tmps.size = a.tmps.size)(h:PostX P n0 vars w' g' H' a' r e a'' w''):PostX P n0 vars w g H a r e a'' w'':=by
 obtain⟨h0,g2,h1,h2,h3,h4,h5,h6⟩:=h
 exact⟨h0,g2,hv.trans h1,h2,h3,h4,h5,h6.trans hs⟩
section
variable{P:Program}{kn:TypeId→Bool}
inductive CompI (P:Program) (kn:TypeId→Bool) (lone:FuncId→Bool) (nt:Nat) (vars:List Nat):Code→SCode→Prop
 | skip:CompI P kn lone nt vars .skip .skip
 | label {l:Nat}:CompI P kn lone nt vars (.label l) .skip
 | quiet {id:Nat} {ops:Array Oper} (h:quietAt kn nt vars ops = true):CompI P kn lone nt vars (.region id ops false) .skip
 | region {id:Nat} {ops:Array Oper} {sos:List SO} (h:compOps P kn nt vars ops ops.toList [] = some sos):CompI P kn lone nt vars (.region id ops false) (.region sos)
 | draw {id:Nat} {ops:Array Oper} {sos:List SO} {ds:List DO} (h:compOps P kn nt vars ops ops.toList [] = some sos) (hd:compDraw lone ops sos = some ds):CompI P kn lone nt vars (.region id ops true) (.draw ds)
 | still {id:Nat} {ops:Array Oper} {sos:List SO} {ds:List DO} {ns:List Nat} (h:compOps P kn nt vars ops ops.toList [] = some sos) (hd:compDraw lone ops sos = some ds):CompI P kn lone nt vars (.region id ops true) (.still ns (.draw ds))
 | seq {a b:Code} {a' b':SCode} (ha:comp P kn lone nt vars a = some a') (hb:comp P kn lone nt vars b = some b'):CompI P kn lone nt vars (.seq a b) (.seq a' b')
 | cond {c:Operand} {c':SA} {a b:Code} {a' b':SCode} (hc:compArg [] false c = some c') (ha:comp P kn lone nt vars a = some a') (hb:comp P kn lone nt vars b = some b'):CompI P kn lone nt vars (.cond c a b) (.cond c' a' b')
 | block {id:Nat} {b:Code} {b':SCode} (hb:comp P kn lone nt vars b = some b'):CompI P kn lone nt vars (.block id b) (.block id b')
 | loop {b:Code} {b':SCode} (hb:comp P kn lone nt vars b = some b'):CompI P kn lone nt vars (.loop b) (.loop b')
 | exit {id:Nat}:CompI P kn lone nt vars (.exit id) (.exit id)
 | ret:CompI P kn lone nt vars .ret .ret
 | bad {c:Code}:CompI P kn lone nt vars c .refuse
 | range {f:Operand} {f':SA} {ps:Array Tmp} {a b:Code} {a' b':SCode} (hv:1000002 ∉ vars) (hps:∀ p ∈ ps.toList,p ∈ vars∧p < nt) (hf:compArg [] false f = some f') (ha:comp P kn lone nt vars a = some a') (hb:comp P kn lone nt vars b = some b') :
   CompI P kn lone nt vars (.rangeFunc f ps a b) (.range f' ps.toList a' b')
theorem comp_inv{lone:FuncId→Bool}{nt:Nat}{vars:List Nat}{code:Code}{c:SCode}(h:comp P kn lone nt vars code = some c)(hsc:∀ b,code ≠ .scope b):CompI P kn lone nt vars code c:=by
 cases code with
 | skip=>simp only[comp,Option.some.injEq]at h; subst h; exact .skip
 | scope b=>exact absurd rfl (hsc b)
 | label l=>simp only[comp,Option.some.injEq]at h; subst h; exact .label
 | exit id=>simp only[comp,Option.some.injEq]at h; subst h; exact .exit
 | ret=>simp only[comp,Option.some.injEq]at h; subst h; exact .ret
 | region id ops draw =>
  rw[comp]at h
  split at h
  ·rename_i hq
   simp only[Bool.and_eq_true,Bool.not_eq_true']at hq
   obtain⟨rfl,hq⟩:=hq
   simp only[Option.some.injEq]at h
   subst h
   exact .quiet hq
  simp only[Option.some.injEq]at h
  cases h1:compOps P kn nt vars ops ops.toList [] with
  | none=>rw[h1]at h; simp at h; subst h; exact .bad
  | some sos =>
   rw[h1]at h
   cases draw with
   | true =>
    cases h3:compDraw lone ops sos with
    | none=>simp[h3]at h; subst h; exact .bad
    | some ds =>
     simp[h3]at h
     split at h
     ·subst h; exact .draw h1 h3
     ·subst h; exact .still h1 h3
   | false=>simp at h; subst h; exact .region h1
 | seq a b =>
  simp only[comp,Option.bind_eq_some_iff,Option.map_eq_some_iff]at h
  obtain⟨a',ha,b',hb,rfl⟩:=h
  exact .seq ha hb
 | cond c a b =>
  simp only[comp,Option.bind_eq_some_iff,Option.map_eq_some_iff]at h
  obtain⟨c',hc,a',ha,b',hb,rfl⟩:=h
  exact .cond hc ha hb
 | block id b =>
  simp only[comp,Option.map_eq_some_iff]at h
  obtain⟨b',hb,rfl⟩:=h
  exact .block hb
 | loop b =>
  simp only[comp,Option.map_eq_some_iff]at h
  obtain⟨b',hb,rfl⟩:=h
  exact .loop hb
 | rangeFunc f ps a b =>
  simp only[comp]at h
  split at h
  ·rename_i hps
   simp only[Bool.and_eq_true,Bool.not_eq_true']at hps
   obtain⟨hv,hps⟩:=hps
   simp only[Option.bind_eq_some_iff,Option.map_eq_some_iff]at h
   obtain⟨f',hf,a',ha,b',hb,rfl⟩:=h
   refine .range (by simpa using hv) (fun p hp=>?_) hf ha hb
   have:=List.all_eq_true.1 hps p hp
   simpa using this
  ·cases h
 | _=>simp only[comp,Option.some.injEq]at h; subst h; exact .bad
end
def ExecM(P:Program)(kn:TypeId→Bool)(c:SCode)(s:St)(r:SExit×St):Prop :=
 ∀ (n0:Nat) (r0:Option Nat) (lone:FuncId→Bool) (nt:Nat) (vars:List Nat) (code:Code),CompI P kn lone nt vars code c→∀ (a:Act) (w:World) (g:Gh),Pre P kn n0 r0 nt vars a w g s→code.wpIn (FR r0) 0 P (PostX P n0 vars w g s.H a r) a w
theorem FR_room{r0:Option Nat}{n:Nat}:(FR r0).room n:=fun _ h=>by cases h
theorem stepR_scope{P:Program}{b:Frame}{a:Act}{k:List Item}{cs:List Frame}{w:World}{c:Code}:step P (lone (b.atR a (.code (.scope c)::k)) cs w) = .next (lone (b.atR a (.code c::.inScope c::k)) cs w) :=
 step_lone_go (by simp[stepG,stepG.exec,Frame.atR])
theorem stepR_inScope{P:Program}{b:Frame}{a:Act}{k:List Item}{cs:List Frame}{w:World}{c:Code}:step P (lone (b.atR a (.inScope c::k)) cs w) = .next (lone (b.atR a k) cs w) :=
 step_lone_go (by simp[stepG,stepG.exec,Frame.atR])
theorem stepR_label{P:Program}{b:Frame}{a:Act}{k:List Item}{cs:List Frame}{w:World}{l:Nat}:step P (lone (b.atR a (.code (.label l)::k)) cs w) = .next (lone (b.atR a k) cs w) :=
 step_lone_go (by simp[stepG,stepG.exec,Frame.atR])
theorem wpIn_label{r0:Option Nat}{P:Program}{l:Nat}{Q:Exit→Act→World→Prop}{a:Act}{w:World}(h:Q .normal a w):(Code.label l).wpIn (FR r0) 0 P Q a w:=fun _ _ _ _ hb hr =>
 ⟨.normal,a,w,h,.one (fenced_calm hb hr rfl) stepR_label⟩
theorem wpIn_scope{r0:Option Nat}{P:Program}{c:Code}{Q:Exit→Act→World→Prop}{a:Act}{w:World}(h:c.wpIn (FR r0) 0 P Q a w)(hg:∀ l a w,¬ Q (.goto l) a w):(Code.scope c).wpIn (FR r0) 0 P Q a w:=by
 intro b k cs hro hb hr
 obtain⟨e,a₁,w₁,hq,harr⟩:=h b (.inScope c::k) cs hro hb hr
 have h0:StepsIn (Machine.fenced P (FR r0)) P (lone (b.atR a (.code (.scope c)::k)) cs w) (lone (b.atR a (.code c::.inScope c::k)) cs w):=.one (fenced_calm hb hr rfl) stepR_scope
 cases e with
 | normal=>exact⟨.normal,a₁,w₁,hq,StepsIn.trans h0 (StepsIn.trans harr (.one (fenced_calm hb hr rfl) stepR_inScope))⟩
 | exit id=>exact⟨.exit id,a₁,w₁,hq,.of_steps h0 (show ArrivesIn _ _ _ _ _ _ _ _ _ from ⟨fun k' hk=>harr.1 k' (by simp[exitTo,hk]),fun hr hk=>harr.2 hr (by simp[exitTo,hk])⟩)⟩
 | goto l=>exact absurd hq (hg l a₁ w₁)
 | ret=>exact⟨_,a₁,w₁,hq,.of_steps h0 harr⟩
 | panic ch=>exact⟨_,a₁,w₁,hq,.of_steps h0 harr⟩
 | outgrown=>exact⟨_,a₁,w₁,hq,.of_steps h0 harr⟩
theorem PostX.noGoto{P:Program}{n0:Nat}{vars:List Nat}{w:World}{g:Gh}{H:List Obj}{a:Act}{r:SExit×St}{l:Nat}{a':Act}{w':World}:¬ PostX P n0 vars w g H a r (.goto l) a' w':=fun h=>by
 have h0:=h.1
 cases hr:r.1 <;> rw[hr]at h0 <;> exact h0
theorem ExecM.go{P:Program}{kn:TypeId→Bool}{c:SCode}{s:St}{r:SExit×St}(h:ExecM P kn c s r)(n0:Nat)(r0:Option Nat)(lone:FuncId→Bool)(nt:Nat)(vars:List Nat) :
  ∀ (code:Code),comp P kn lone nt vars code = some c→∀ (a:Act) (w:World) (g:Gh),Pre P kn n0 r0 nt vars a w g s→code.wpIn (FR r0) 0 P (PostX P n0 vars w g s.H a r) a w
 | .scope b,hc,a,w,g,hp=>wpIn_scope (ExecM.go h n0 r0 lone nt vars b (by rw[comp]at hc; exact hc) a w g hp) fun _ _ _=>PostX.noGoto
 | .skip,hc,a,w,g,hp | .region ..,hc,a,w,g,hp | .seq ..,hc,a,w,g,hp | .cond ..,hc,a,w,g,hp | .block ..,hc,a,w,g,hp | .loop ..,hc,a,w,g,hp | .rangeFunc ..,hc,a,w,g,hp
 | .exit ..,hc,a,w,g,hp | .label ..,hc,a,w,g,hp | .goto ..,hc,a,w,g,hp | .ret,hc,a,w,g,hp | .refuse ..,hc,a,w,g,hp=>h n0 r0 lone nt vars _ (comp_inv hc (fun _ e=>by cases e)) a w g hp
def LoopWp(r0:Option Nat)(P:Program)(c:Code)(Q:Exit→Act→World→Prop)(a:Act)(w:World):Prop :=
 ∀ (b:Frame) (k:List Item) (cs:List Frame),b.roundOf = r0→∃ e a' w',Q e a' w'∧ArrivesIn (Machine.fenced P (FR r0)) P (lone (b.atR a (.code c::.inLoop c::k)) cs w) b k cs e a' w'
theorem LoopWp.wp{r0:Option Nat}{P:Program}{c:Code}{Q:Exit→Act→World→Prop}{a:Act}{w:World}(h:LoopWp r0 P c Q a w):(Code.loop c).wpIn (FR r0) 0 P Q a w:=fun b k cs hro hb hr =>
 let ⟨e,a',w',q,r⟩:=h b k cs hro; ⟨e,a',w',q,.of_steps (.one (fenced_calm hb hr rfl) stepR_loop) r⟩
theorem LoopWp.round{r0:Option Nat}{P:Program}{c:Code}{Q:Exit→Act→World→Prop}{a:Act}{w:World}(h:c.wpIn (FR r0) 0 P (Exit.then (LoopWp r0 P c Q) Q) a w):LoopWp r0 P c Q a w:=by
 intro b k cs hro
 have hb:(FR r0).fn b.fn:=trivial
 have hr:(FR r0).room (cs.length + 1 + 0):=FR_room
 obtain⟨e,a₁,w₁,hq,harr⟩:=h b (.inLoop c::k) cs hro hb hr
 cases e with
 | normal =>
  obtain⟨e₂,a₂,w₂,hq₂,harr₂⟩:=hq b k cs hro
  exact⟨e₂,a₂,w₂,hq₂,.of_steps (StepsIn.trans harr (.one (fenced_calm hb hr rfl) stepR_inLoop)) harr₂⟩
 | exit id=>exact⟨_,a₁,w₁,hq,.pass (x:=.inLoop c) rfl (fun _ _=>.inl (by simp)) harr⟩
 | goto l=>exact⟨_,a₁,w₁,hq,.pass (x:=.inLoop c) rfl (fun _ _=>.inl (by simp)) harr⟩
 | ret=>exact⟨_,a₁,w₁,hq,.pass (x:=.inLoop c) rfl (fun _ _=>.inl (by simp)) harr⟩
 | panic ch=>exact⟨_,a₁,w₁,hq,.pass (x:=.inLoop c) rfl (fun _ _=>.inl (by simp)) harr⟩
 | outgrown=>exact⟨_,a₁,w₁,hq,.pass (x:=.inLoop c) rfl (fun _ _=>.inl (by simp)) harr⟩
theorem LoopWp.mono{r0:Option Nat}{P:Program}{c:Code}{Q Q':Exit→Act→World→Prop}{a:Act}{w:World}(h:LoopWp r0 P c Q a w)(hq:∀ e a w,Q e a w→Q' e a w):LoopWp r0 P c Q' a w :=
 fun b k cs hro=>let ⟨e,a',w',q,r⟩:=h b k cs hro; ⟨e,a',w',hq _ _ _ q,r⟩
def LoopM(P:Program)(kn:TypeId→Bool)(c:SCode)(s:St)(r:SExit×St):Prop :=
 ∀ (n0:Nat) (r0:Option Nat) (lone:FuncId→Bool) (nt:Nat) (vars:List Nat) (code:Code),comp P kn lone nt vars code = some c→∀ (a:Act) (w:World) (g:Gh),Pre P kn n0 r0 nt vars a w g s→LoopWp r0 P code (PostX P n0 vars w g s.H a r) a w
def DrawM(P:Program)(kn:TypeId→Bool)(ops:List DO)(s:St)(s':St):Prop :=
 ∀ (n0:Nat) (r0:Option Nat) (lone:FuncId→Bool) (nt:Nat) (vars:List Nat) (code:Code),CompI P kn lone nt vars code (.draw ops)→∀ (a:Act) (w:World) (g:Gh),Pre P kn n0 r0 nt vars a w g s→code.wpIn (FR r0) 0 P (PostX P n0 vars w g s.H a (.normal,s')) a w
section
variable{P:Program}{kn:TypeId→Bool}
theorem quietAt_inv{nt:Nat}{vars:List Nat}{ops:Array Oper}(h:quietAt kn nt vars ops = true):∃ (o1 o2:Oper) (t:Nat) (f:FuncId) (aZ bs:Array Operand) (c:Call),ops = #[o1,o2]∧o1.dst = some t∧o1.op = .makeFunc (.func f) aZ bs∧o1.guard = none ∧
  o2.dst = none∧o2.op = .defer c∧o2.guard = none∧c.callee = .value (.tmp t)∧aZ = #[]∧c.args = #[]∧1000002 ∈ vars∧t < nt∧t ∉ vars∧kn (3000000 + f) = true:=by
 unfold quietAt at h
 split at h
 ·rename_i o1 o2 ho
  split at h
  ·rename_i t f aZ bs c h1 h2 h3 h4 h5 h6
   split at h
   ·rename_i t' hc
    simp only[Bool.and_eq_true,decide_eq_true_eq,Bool.not_eq_true',List.contains_eq_mem,decide_eq_false_iff_not,Array.isEmpty_iff]at h
    obtain⟨⟨⟨⟨⟨⟨k1,k2⟩,k3⟩,k4⟩,k5⟩,k6⟩,k7⟩:=h
    subst k2
    exact⟨o1,o2,_,f,aZ,bs,c,by rw[← Array.toList_inj]; simpa using ho,h1,h2,h3,h4,h5,h6,hc,k5,k6,k1,k3,k4,k7⟩
   ·cases h
  ·cases h
 ·cases h
theorem exec_quiet{n0:Nat}{r0:Option Nat}{nt:Nat}{vars:List Nat}{id:Nat}{ops:Array Oper}{a:Act}{w:World}{g:Gh}{s:St}(hq:quietAt kn nt vars ops = true)(hp:Pre P kn n0 r0 nt vars a w g s) :
  (Code.region id ops false).wpIn (FR r0) 0 P (PostX P n0 vars w g s.H a (.normal,s)) a w:=by
 obtain⟨o1,o2,t,f,aZ,bs,c,rfl,h1,h2,h3,h4,h5,h6,h7,rfl,h9,k1,k2,k3,k4⟩:=quietAt_inv hq
 obtain⟨rfl,hqf⟩:=hp.qt k1
 refine wpIn_region ?_
 have ht:t < a.tmps.size:=Nat.lt_of_lt_of_le k2 hp.size
 have w1:Region.wanted o1 (yielded #[o1,o2] a.tmps) = true:=by simp[Region.wanted,h3]
 have w2:∀ tmps,Region.wanted o2 (yielded #[o1,o2] tmps) = true:=fun tmps=>by simp[Region.wanted,h6]
 have r1:(o1.semAt none a.eval).run P w = .ok (.value (.func (.func f) #[] (bs.map a.eval))) w:=by
  rw[Oper.semAt_none]
  simp[execOp,h2,Instr.makeFunc]
 have e1:(a.put (some t) (.func (.func f) #[] (bs.map a.eval))).eval (.tmp t) = .func (.func f) #[] (bs.map a.eval):=by
  simp[Act.put,Act.eval,ht]
 have r2:(o2.semAt none (a.put (some t) (.func (.func f) #[] (bs.map a.eval))).eval).run P w = .ok (.defer { target:=.fn (.func f) (bs.map a.eval),args:=#[] }) w:=by
  rw[Oper.semAt_none]
  simp[execOp,h5,resolve,h7,e1,Deferred.ofValue,h9]
 simp only[List.size_toArray,List.length_cons,List.length_nil,List.range_succ,List.range_zero,List.nil_append,List.cons_append,wpOpsIn,List.getElem?_toArray,List.getElem?_cons_zero,List.getElem?_cons_succ]
 have x1:(FR none).round = none:=rfl
 have a1:∀ h,o1.about P w a.eval = some h→(FR none).fn h:=fun _ _=>trivial
 simp only[wpOpsIn,w1,if_true]
 refine⟨a1,?_⟩
 rw[x1,r1,Oper.uponIn_value,h1]
 simp only[w2,if_true]
 refine⟨fun _ _=>trivial,?_⟩
 rw[x1,r2,Oper.uponIn_defer,h4]
 refine⟨trivial,g,.refl _ _ _,hp.st,⟨fun t v h=>(by cases h),fun t' v h=>?_,hp.env.glob⟩,hp.fr,hp.mks.push (hqf f k4),?_⟩
 ·have hne:t' ≠ t:=fun e=>k3 (e ▸ hp.fr.env t' v h)
  have:=hp.env.env t' v h
  simpa [Act.put,Array.getD_eq_getD_getElem?,Array.getElem?_setIfInBounds,Ne.symm hne] using this
 ·simp[Act.put]
theorem exec_skip{s:St}:ExecM P kn .skip s (.normal,s):=by
 intro n0 r0 lone nt vars code hc a w g hp
 cases hc with
 | skip=>exact wpIn_skip ⟨trivial,g,.refl _ _ _,hp.st,hp.env,hp.fr,hp.mks,rfl⟩
 | label=>exact wpIn_label ⟨trivial,g,.refl _ _ _,hp.st,hp.env,hp.fr,hp.mks,rfl⟩
 | quiet hq=>exact exec_quiet hq hp
theorem exec_region{sos:List SO}{s s':St}(h:OpsM P kn sos ⟨[],s.env⟩ s.H s'):ExecM P kn (.region sos) s (.normal,s'):=by
 intro n0 r0 lone nt vars code hc a w g hp
 cases hc with
 | @region id ops _ hops =>
 refine wpIn_region ?_
 have:=h nt vars ops ops.toList [] 0 hops (fun j hj=>by simp) a w g r0 (PostX P n0 vars w g s.H a (.normal,s')) hp.env hp.fr hp.size hp.cd hp.st
  (fun a' w' g' q1 q2 q3 q4 q5 q6=>⟨trivial,g',q1,q2,q3,q4,by rw[q5]; exact hp.mks.evo q1,q6⟩)
 rw[List.range_eq_range']
 simpa using this
theorem exec_exit{id:Nat}{s:St}:ExecM P kn (.exit id) s (.exit id,s):=by
 intro n0 r0 lone nt vars code hc a w g hp
 cases hc with
 | exit=>exact wpIn_exit ⟨rfl,g,.refl _ _ _,hp.st,hp.env,hp.fr,hp.mks,rfl⟩
theorem exec_ret{s:St}:ExecM P kn .ret s (.ret,s):=by
 intro n0 r0 lone nt vars code hc a w g hp
 cases hc with
 | ret=>exact wpIn_ret ⟨trivial,g,.refl _ _ _,hp.st,hp.env,hp.fr,hp.mks,rfl⟩
theorem exec_draw{ops:List DO}{s s':St}(h:DrawM P kn ops s s'):ExecM P kn (.draw ops) s (.normal,s'):=h
theorem stillV_rep{w:World}{g:Gh}{H:List Obj}{c:Value}{v:AV}(h:Rep w g H c v):Rep w g H c (stillV H v):=by
 cases v with
 | ar l v off len =>
  simp only[stillV]
  split
  ·rename_i es f ver rows hH
   split
   ·rename_i hcond
    obtain⟨p,cap,rfl,hA⟩:=h.ar_inv
    obtain⟨_,_,es2,fz2,ver2,rows2,hH2,_,_,hf⟩:=hA
    rw[hH]at hH2
    cases hH2
    exact .p (hf (by simpa [seen] using hcond.1)).1
   ·exact h
  ·exact h
 | _=>exact h
theorem lk_still{ns:List Nat}{H:List Obj}:∀ {env:Env} {n:Nat} {v:AV},lk (stillE ns H env) n = some v→∃ u,lk env n = some u∧(v = u∨v = stillV H u)
 | [],n,v,h=>by cases h
 | (m,u)::env,n,v,h=>by
  simp only[stillE,List.map_cons,lk]at h ⊢
  split at h
  ·rename_i hm
   rw[if_pos hm]
   refine⟨u,rfl,?_⟩
   simp only[Option.some.injEq]at h
   subst h
   split
   ·exact .inr rfl
   ·exact .inl rfl
  ·rename_i hm
   rw[if_neg hm]
   exact lk_still h
theorem exec_still{ns:List Nat}{c:SCode}{s:St}{r:SExit×St}(h:ExecM P kn c (stillS ns s) r):ExecM P kn (.still ns c) s r:=by
 intro n0 r0 lone nt vars code hc a w g hp
 cases hc with
 | still h1 hd =>
  obtain⟨g1,e1,s1⟩:=evo_freeze (stillArs ns s.env) hp.st
  refine wpIn_mono (h n0 r0 lone nt vars _ (.draw h1 hd) a w g1 ⟨⟨fun t v h=>(by cases h),fun t v h=>?_,s1.glob⟩,⟨fun t v h=>(by cases h),fun t v h=>?_⟩,hp.size,s1,e1.cd.trans hp.cd,hp.mks.evo e1,hp.nle,(fun l0 hl=>?_),hp.qt⟩) fun e a' w' q=>q.trans e1 rfl
  ·obtain⟨u,hu,hv⟩:=lk_still h
   have:=e1.rep _ _ (hp.env.env t u hu)
   rcases hv with rfl | rfl
   ·exact this
   ·exact stillV_rep this
  ·obtain⟨u,hu,_⟩:=lk_still h
   exact hp.fr.env t u hu
  ·obtain⟨l,hr⟩:=hp.rd l0 hl
   exact⟨l,e1.rep _ _ hr⟩
theorem then_post{n0:Nat}{r0:Option Nat}{nt:Nat}{vars:List Nat}{a:Act}{w:World}{g:Gh}{s:St}{r r':SExit×St}{N:Act→World→Prop}{e:Exit}{a':Act}{w':World}(hq:PostX P n0 vars w g s.H a r e a' w')(hp:Pre P kn n0 r0 nt vars a w g s)(hnormal:r.1 = .normal→∀ g',Evo w g s.H w' g' r.2.H→Pre P kn n0 r0 nt vars a' w' g' r.2→a'.tmps.size = a.tmps.size→N a' w')(hother:r.1 ≠ .normal→r' = r):Exit.then N (PostX P n0 vars w g s.H a r') e a' w':=by
 obtain⟨x,s1⟩:=r
 have h0:=hq.1
 obtain⟨g',h1,h2,h3⟩:=hq.pre hp
 cases x with
 | normal=>cases e <;> first | (exact h0.elim) | exact hnormal rfl g' h1 h2 h3
 | exit i=>cases e <;> first | (exact h0.elim) | (rw[hother (by simp)]; exact hq)
 | ret=>cases e <;> first | (exact h0.elim) | (rw[hother (by simp)]; exact hq)
theorem exec_seq{x y:SCode}{s:St}{r1 r:SExit×St}(h1:ExecM P kn x s r1)(h2:(r1.1 = .normal∧ExecM P kn y r1.2 r)∨(r1.1 ≠ .normal∧r = r1)):ExecM P kn (.seq x y) s r:=by
 intro n0 r0 lone nt vars code hc a w g hp
 cases hc with
 | seq ha hb =>
  refine wpIn_seq (wpIn_mono (h1.go n0 r0 lone nt vars _ ha a w g hp) fun e a' w' hq=>then_post hq hp (fun hn g' k1 k2 k4=>?_) (fun hn=>?_))
  ·rcases h2 with ⟨_,h2⟩ | ⟨h3,_⟩
   ·exact wpIn_mono (h2.go n0 r0 lone nt vars _ hb a' w' g' k2) fun e a'' w'' q=>q.trans k1 k4
   ·exact absurd hn h3
  ·rcases h2 with ⟨h3,_⟩ | ⟨_,h3⟩
   ·exact absurd h3 hn
   ·exact h3
theorem exec_cond{c:SA}{x y:SCode}{s:St}{r:SExit×St}{t:Bool}(hev:ev ⟨[],s.env⟩ c = some (.p (.v (.bool t))))(h:ExecM P kn (if t then x else y) s r):ExecM P kn (.cond c x y) s r:=by
 intro n0 r0 lone nt vars code hc a w g hp
 cases hc with
 | cond h0 ha hb =>
  have hv:=(arg_rep hp.env h0 hev).val.1
  refine wpIn_cond hv ?_
  cases t with
  | true=>exact h.go n0 r0 lone nt vars _ ha a w g hp
  | false=>exact h.go n0 r0 lone nt vars _ hb a w g hp
theorem exec_block{id:Nat}{x:SCode}{s:St}{r1 r:SExit×St}(h1:ExecM P kn x s r1)(h2:r = match r1.1 with | .exit i=>if i = id then (.normal,r1.2) else r1 | _=>r1):ExecM P kn (.block id x) s r:=by
 intro n0 r0 lone nt vars code hc a w g hp
 cases hc with
 | block hb =>
  refine wpIn_block (wpIn_mono (h1.go n0 r0 lone nt vars _ hb a w g hp) fun e a' w' hq=>?_)
  obtain⟨x,s'⟩:=r1
  have h0:=hq.1
  cases x with
  | normal=>simp only at h2; subst h2; cases e <;> first | exact h0.elim | exact hq
  | ret=>simp only at h2; subst h2; cases e <;> first | exact h0.elim | exact hq
  | exit i =>
   cases e with
   | exit j =>
    have hij:i = j:=h0
    subst hij
    simp only at h2
    simp only[Exit.inBlock]
    split
    ·rename_i he
     rw[if_pos he]at h2
     subst h2
     exact⟨trivial,hq.2⟩
    ·rename_i he
     rw[if_neg he]at h2
     subst h2
     exact hq
   | _=>exact h0.elim
theorem exec_loop{x:SCode}{s:St}{r1 r:SExit×St}(h1:ExecM P kn x s r1)(h2:(r1.1 = .normal∧LoopM P kn x r1.2 r)∨(r1.1 ≠ .normal∧r = r1)):LoopM P kn x s r:=by
 intro n0 r0 lone nt vars code hc a w g hp
 refine LoopWp.round (wpIn_mono (h1.go n0 r0 lone nt vars _ hc a w g hp) fun e a' w' hq=>then_post hq hp (fun hn g' k1 k2 k4=>?_) (fun hn=>?_))
 ·rcases h2 with ⟨_,h2⟩ | ⟨h3,_⟩
  ·exact LoopWp.mono (h2 n0 r0 lone nt vars _ hc a' w' g' k2) fun e a'' w'' q=>q.trans k1 k4
  ·exact absurd hn h3
 ·rcases h2 with ⟨h3,_⟩ | ⟨_,h3⟩
  ·exact absurd h3 hn
  ·exact h3
theorem LoopM.exec{x:SCode}{s:St}{r:SExit×St}(h:LoopM P kn x s r):ExecM P kn (.loop x) s r:=by
 intro n0 r0 lone nt vars code hc a w g hp
 cases hc with
 | loop hb=>exact (h n0 r0 lone nt vars _ hb a w g hp).wp
end
end Go.Proofs.YtchgldaddcolhaaGreatDoor
namespace Go.Proofs.YtchgldaddcolhaaGreatDoor
open Go
variable[Sub]
theorem big_put{a:Act}{n t:Nat}{v:Value}(h:n ≤ a.tmps.size):n ≤ (a.put (some t) v).tmps.size:=by simpa [Act.put] using h
theorem eval_put{a:Act}{n t:Nat}{v:Value}(h:n ≤ a.tmps.size)(ht:t < n):(a.put (some t) v).eval (.tmp t) = v:=by
 simp[Act.put,Act.eval,Nat.lt_of_lt_of_le ht h]
theorem run_neq_nil{P:Program}{w:World}{a:Act}{x:Operand}{t yt:TypeId}{ms:Array (String×TypeId)}{dst:Option Tmp}{ty:TypeId}{pos:String}{after:Array Edge}{gd:Option (Nat×Bool)}(ht:P.underlying t = some (.interface ms))(hx:a.eval x = .nilIface):(execOp a.eval ⟨dst,.binOp .neq t x (.const .nilIface) yt,ty,pos,after,gd⟩).run P w = .ok (.value (.bool false)) w:=by
 have he:a.eval (.const .nilIface) = .nilIface:=rfl
 have key:∀ d,(Op.equalIn (d + 1) t .nilIface .nilIface).run P w = .ok true w:=fun d=>by
  simp[Op.equalIn,run_underlying ht]
 have hq:(Op.equal t .nilIface .nilIface).run P w = .ok true w:=key 9999
 simp[execOp,hx,he,eqGuard,Go.binOp,hq]
theorem quiet_of {P:Program} {f:FuncId} {fn:Func} {i0 i1:Nat} {x:Code} {t1 t2 t3 t4:Nat} {t yt y1 y2 y3 y4:TypeId} {ms:Array (String×TypeId)} {at1:Array TypeId} {p1 p2 p3 p4:String} {e1 e2 e3 e4:Array Edge}
  (hf:P.funcs[f]? = some fn) (hn:(fn.name == "runtime.NumGoroutine") = false)
  (hb:fn.body = some (.seq (.region i0 #[⟨some t1,.call ⟨.builtin .recover,#[],at1⟩,y1,p1,e1,none⟩,⟨some t2,.assign (.tmp t1),y2,p2,e2,none⟩] false)
   (.seq (.region i1 #[⟨some t3,.move (.tmp t2),y3,p3,e3,none⟩,⟨some t4,.binOp .neq t (.tmp t3) (.const .nilIface) yt,y4,p4,e4,none⟩] false) (.cond (.tmp t4) x .skip))))
  (hr:fn.results = #[]) (h1:t1 < fn.ntmps) (h2:t2 < fn.ntmps) (h3:t3 < fn.ntmps) (h4:t4 < fn.ntmps) (ht:P.underlying t = some (.interface ms)):QuietF P f:=by
 refine⟨⟨fn,_,hf,hn,hb⟩,fun caps w=>?_⟩
 refine callsDIn_of_wpSIn hf hb trivial fun c₀ cs hu=>?_
 have hsz:fn.ntmps ≤ ({ tmps:=caps++Array.replicate (fn.ntmps - caps.size) undef,defers:=[] }:Act).tmps.size:=by simp; omega
 have hd:({ tmps:=caps++Array.replicate (fn.ntmps - caps.size) undef,defers:=[] }:Act).defers = []:=rfl
 generalize ({ tmps:=caps++Array.replicate (fn.ntmps - caps.size) undef,defers:=[] }:Act) = a at hsz hd ⊢
 have hrd:recoverD (c₀::cs) = none:=by simp[recoverD,hu]
 have z1:=big_put (t:=t1) (v:=.nilIface) hsz
 have z2:=big_put (t:=t2) (v:=.nilIface) z1
 have z3:=big_put (t:=t3) (v:=.nilIface) z2
 have v1:=eval_put (v:=.nilIface) hsz h1
 have v2:=eval_put (v:=.nilIface) z1 h2
 have v3:=eval_put (v:=.nilIface) z2 h3
 have v4:=eval_put (v:=.bool false) z3 h4
 apply wpSIn_seq
 apply wpSIn_region
 have r1:∀ dst ty pos after,(execOp a.eval ⟨dst,.call ⟨.builtin .recover,#[],at1⟩,ty,pos,after,none⟩).run P w = .ok .recover w:=fun _ _ _ _=>by simp[execOp,resolve,Go.invoke,builtin]
 have r2:∀ dst ty pos after,(execOp (a.put (some t1) .nilIface).eval ⟨dst,.assign (.tmp t1),ty,pos,after,none⟩).run P w = .ok (.value .nilIface) w:=fun _ _ _ _=>by simp[execOp,v1]
 have r3:∀ dst ty pos after,(execOp ((a.put (some t1) .nilIface).put (some t2) .nilIface).eval ⟨dst,.move (.tmp t2),ty,pos,after,none⟩).run P w = .ok (.value .nilIface) w:=fun _ _ _ _=>by simp[execOp,v2]
 simp only[List.size_toArray,List.length_cons,List.length_nil,List.range_succ,List.range_zero,List.nil_append,List.cons_append,wpOpsSIn,List.getElem?_toArray,List.getElem?_cons_zero,List.getElem?_cons_succ,Region.wanted,if_true,r1,hrd,r2]
 refine⟨fun _ _=>trivial,fun _ _=>trivial,?_⟩
 show Code.wpSIn _ _ _ _ _ _ _ _
 apply wpSIn_seq
 apply wpSIn_region
 simp only[List.size_toArray,List.length_cons,List.length_nil,List.range_succ,List.range_zero,List.nil_append,List.cons_append,wpOpsSIn,List.getElem?_toArray,List.getElem?_cons_zero,List.getElem?_cons_succ,Region.wanted,if_true,r3,run_neq_nil ht v3]
 refine⟨fun _ _=>trivial,fun _ _=>trivial,?_⟩
 show Code.wpSIn _ _ _ _ _ _ _ _
 refine wpSIn_cond (t:=false) v4 ?_
 simp only[Bool.false_eq_true,if_false]
 refine wpSIn_of_wpIn rfl (wpIn_skip ?_)
 refine⟨by simpa [Act.put] using hd,.returning,?_,.tuple #[],?_,⟨_,rfl⟩,rfl,rfl⟩
 ·cases c₀; simp_all
 ·simp[results,hr]
end Go.Proofs.YtchgldaddcolhaaGreatDoor
namespace Go.Proofs.YtchgldaddcolhaaGreatDoor
open Go
def condOf:Code→Option Code
 | .seq _ (.seq _ (.cond _ x _))=>some x
 | _=>none
theorem qb93:∃ x,Tryz.f93.body = some (.seq (.region 0 #[⟨some 5,.call ⟨.builtin .recover,#[],#[]⟩,20, "residue.go:40",#[],none⟩,⟨some 2,.assign (.tmp 5),20, "residue.go:40",#[⟨0,.data⟩,⟨0,.chain⟩,⟨0,.phase⟩],none⟩] false)
  (.seq (.region 1 #[⟨some 6,.move (.tmp 2),20, "residue.go:40",#[],none⟩,⟨some 7,.binOp .neq 20 (.tmp 6) (.const .nilIface) 20,4, "residue.go:40",#[⟨0,.data⟩],none⟩] false) (.cond (.tmp 7) x .skip))) :=
 ⟨(Tryz.f93.body.bind condOf).getD .skip,by kernel_rfl⟩
theorem nt93:Tryz.f93.ntmps = 16:=by kernel_rfl
theorem quiet93:QuietF Tryz.prog 93:=by
 obtain⟨x,hb⟩:=qb93
 exact quiet_of Tryz.func93 (by kernel_rfl) hb (by kernel_rfl) (by rw[nt93]; decide) (by rw[nt93]; decide) (by rw[nt93]; decide) (by rw[nt93]; decide) Tryz.underlying20
end Go.Proofs.YtchgldaddcolhaaGreatDoor
namespace Go.Proofs.YtchgldaddcolhaaGreatDoor
open Go
abbrev I(k:IntKind)(n:Int):Value:=.int k n
abbrev bT:Value:=.bool true
abbrev bF:Value:=.bool false
abbrev Y(l:List UInt8):Value:=.string ⟨l.toArray⟩
abbrev i(n:Int):SA:=.c (.p (.v (.int .i64 n)))
abbrev C(v:Value):SA:=.c (.p (.v v))
abbrev o0(op:SOp):SO:=⟨.no,op,none⟩
abbrev ot(n:Nat)(op:SOp):SO:=⟨.t n,op,none⟩
abbrev ox(n:Nat)(op:SOp):SO:=⟨.x n,op,none⟩
abbrev og(d:SD)(op:SOp)(a:SA)(b:Bool):SO:=⟨d,op,some (a,b)⟩
abbrev R(l:List SO):SCode:=.region l
abbrev D(l:List DO):SCode:=.draw l
abbrev q(a b:SCode):SCode:=.seq a b
abbrev k(c:SA)(a b:SCode):SCode:=.cond c a b
abbrev bl(n:Nat)(b:SCode):SCode:=.block n b
abbrev lp(b:SCode):SCode:=.loop b
abbrev ex(n:Nat):SCode:=.exit n
def lenTab:ByteArray:=⟨[0,1,2,2,3,3,3,3,4,4,4,4,4,4,4,4,5,5,5,5,5,5,5,5,5,5,5,5,5,5,5,5,6,6,6,6,6,6,6,6,6,6,6,6,6,6,6,6,6,6,6,6,6,6,6,6,6,6,6,6,6,6,6,6,7,7,7,7,7,7,7,7,7,7,7,7,7,7,7,7,7,7,7,7,7,7,7,7,7,7,7,7,7,7,7,7,7,7,7,7,7,7,7,7,7,7,7,7,7,7,7,7,7,7,7,7,7,7,7,7,7,7,7,7,7,7,7,7,8,8,8,8,8,8,8,8,8,8,8,8,8,8,8,8,8,8,8,8,8,8,8,8,8,8,8,8,8,8,8,8,8,8,8,8,8,8,8,8,8,8,8,8,8,8,8,8,8,8,8,8,8,8,8,8,8,8,8,8,8,8,8,8,8,8,8,8,8,8,8,8,8,8,8,8,8,8,8,8,8,8,8,8,8,8,8,8,8,8,8,8,8,8,8,8,8,8,8,8,8,8,8,8,8,8,8,8,8,8,8,8,8,8,8,8,8,8,8,8,8,8,8,8,8,8,8,8].toArray⟩
abbrev oTX (n k:Nat):SO:=⟨.t n,.mov (.x k),none⟩
abbrev oXT (n k:Nat):SO:=⟨.x n,.mov (.t k),none⟩
abbrev oXI (n:Nat) (k:Int):SO:=⟨.x n,.mov (i k),none⟩
abbrev oL (n k:Nat):SO:=⟨.t n,.load1 (.t k),none⟩
abbrev oF (n k m:Nat):SO:=⟨.t n,.fadr k (.t m),none⟩
abbrev oG (n k m:Nat):SO:=⟨.t n,.fadr k (.x m),none⟩
abbrev oC (n g:Nat) (l:List SA):SO:=⟨.t n,.call (.f g) l,none⟩
abbrev oB (n:Nat) (o:BinOp) (a b:SA):SO:=⟨.t n,.bin o a b,none⟩
abbrev dF (o:SO):DO:=⟨o,.free,0,0⟩
abbrev dH (o:SO):DO:=⟨o,.here,0,0⟩
abbrev dL (o:SO):DO:=⟨o,.lone,0,0⟩
abbrev pF:AV:=.p (.v bF)
abbrev p0:AV:=.p (.v (I .i64 0))
abbrev oE (n k m:Nat):SO:=⟨.t n,.extract (.t k) m,none⟩
abbrev oM (n k:Nat):SO:=⟨.t n,.mov (.t k),none⟩
abbrev oN (n:Nat):SO:=⟨.x n,.mov (.c (.lit [])),none⟩
abbrev oS (n k m:Nat):SO:=⟨.no,.store n (.x k) (.t m),none⟩
abbrev oK (n:Nat):SO:=⟨.x n,.mov (C (bF)),none⟩
abbrev oI (n m k l:Nat):SO:=⟨.t n,.idx m (.t k) (.t l),none⟩
abbrev oJ (n k:Nat):SO:=⟨.t n,.len (.t k),none⟩
abbrev gF (n:Nat) (o:SOp) (k:Nat):SO:=⟨.t n,o,some (.t k,false)⟩
abbrev gT (n:Nat) (o:SOp) (k:Nat):SO:=⟨.t n,o,some (.t k,true)⟩
abbrev rG (l:List SO) (c:SCode):SCode:=q (R l) c
abbrev uZ:AV:=.p (.v (I .u8 0))
abbrev z8:List AV:=[uZ,uZ,uZ,uZ,uZ,uZ,uZ,uZ,uZ,uZ,uZ,uZ,uZ,uZ,uZ,uZ,uZ,uZ,uZ,uZ,uZ,uZ,uZ,uZ,uZ,uZ,uZ,uZ,uZ,uZ,uZ,uZ]
end Go.Proofs.YtchgldaddcolhaaGreatDoor
